/- Texts of mine, one behind the other: R5A, R5B, R5C, R5P, KeptPA, R5D. -/
import Derived.Test.YtjfepmohoijalaaGreatMgT
import Derived.Test.YtjfepmohoijalaaGreatMgV
import Derived.Test.YtjfepmohoijalaaGreatMgE
import Derived.Test.YtjfepmohoijalaaGreatMgU
import Derived.Test.YtjfepmohoijalaaGreatMgF
import Derived.Test.YtjfepmohoijalaaGreatP11
section
/- Contracts of munimentref5: get, put, Count, slot, Copy, Free. -/
set_option maxRecDepth 100000
set_option linter.unusedVariables false
set_option linter.unusedSimpArgs false
namespace Mun
open Go Go.RowKit
open Go.Proofs

theorem r5get {F : Foot} (w : World) (v : Value) (p : List UInt8) (a k : Int) (A K : Nat) (hA : a = A) (hK : k = K) (hv : RdB F w v p) (h : A + K ≤ p.length) (h4 : K ≤ 4) :
    Calls Tryz.prog 66 #[v, .int .i64 a, .int .i64 k] w fun e w' => e = .returned (.int .i64 (gt p A K)) ∧ w = w' := by
  have hb : gt p A K < 4294967296 := Nat.lt_of_lt_of_le (gt_lt p A K) (Nat.pow_le_pow_right (n := 256) (by decide) h4)
  have hg := refget_any w _ p a k A K (gt p A K : Int) hA hK rfl hv h (by omega)
  obtain ⟨a1, n, c, rfl, -, -, -⟩ := hv.formN
  obtain ⟨z, hz⟩ : ∃ z, gt p A K = z := ⟨_, rfl⟩
  rw [hz] at hg hb ⊢
  have HG := Lib.hid hg
  clear hg hz hv hA hK
  go_enter Tryz.func66, Tryz.ntmps66
  go_wp2_with fail
  refine HG.out.mono ?_
  rintro e w2 ⟨rfl, rfl⟩
  go_wp2
  go_ret
  exact ⟨rfl, rfl⟩

theorem r5count {F : Foot} (w : World) (v : Value) (p : List UInt8) (hv : RdB F w v p) (hp : 16 ≤ p.length) : Calls Tryz.prog 55 #[v] w fun e w' => e = .returned (.int .i64 (cnt p)) ∧ w = w' := by
  have hg := r5get w v p 14 2 14 2 rfl rfl hv (by omega) (by decide)
  obtain ⟨a1, n, c, rfl, -, -, -⟩ := hv.formN
  have HG := Lib.hid hg
  clear hg hv hp
  go_enter Tryz.func55, Tryz.ntmps55
  go_wp2_with fail
  refine HG.out.mono ?_
  rintro e w2 ⟨rfl, rfl⟩
  go_wp2
  go_ret
  exact ⟨rfl, rfl⟩

theorem r5slot {F : Foot} (w : World) (v : Value) (p : List UInt8) (i : Nat) (hv : RdB F w v p) (hp : 26 + 4 * i + 4 ≤ p.length) (hl : p.length ≤ 100000) :
    Calls Tryz.prog 57 #[v, .int .i64 i] w fun e w' => e = .returned (.tuple #[.int .i64 (sFrom p i), .int .i64 (sSize p i)]) ∧ w = w' := by
  have hg := r5get w v p (26 + 4 * (i : Int)) 2 (26 + 4 * i) 2 (by push_cast; rfl) rfl hv (by omega) (by decide)
  have hg2 := r5get w v p (28 + 4 * (i : Int)) 2 (26 + 4 * i + 2) 2 (by push_cast; omega) rfl hv (by omega) (by decide)
  obtain ⟨a1, n, c, rfl, -, -, -⟩ := hv.formN
  have HG := Lib.hid hg
  have HG2 := Lib.hid hg2
  have hi : (i : Int) ≤ 100000 := by omega
  clear hg hg2 hv hp hl
  go_enter Tryz.func57, Tryz.ntmps57
  go_wp2_with fail
  refine HG.out.mono ?_
  rintro e w2 ⟨rfl, rfl⟩
  go_wp2_with fail
  refine HG2.out.mono ?_
  rintro e w2 ⟨rfl, rfl⟩
  go_wp2
  go_ret2
  exact ⟨rfl, rfl⟩

/-- a step of laying bytes in -/
theorem putAt_zero (p : PBytes) (A : Nat) : putAt p A [] = p := by simp [putAt]
theorem putAt_step (p bs : PBytes) (A k : Nat) (hk : k < bs.length) (hA : A + bs.length ≤ p.length) : (putAt p A (bs.take k)).set (A + k) bs[k] = putAt p A (bs.take (k + 1)) := by
  have e1 : A + (bs.take k).length ≤ p.length := by rw [List.length_take]; omega
  have e2 : A + (bs.take (k + 1)).length ≤ p.length := by rw [List.length_take]; omega
  apply List.ext_getElem?
  intro j
  rw [putAt_getElem? _ _ _ e2]
  by_cases hj : j = A + k
  · subst hj
    rw [List.getElem?_set_self (by rw [putAt_length _ _ _ e1]; omega), if_pos (by rw [List.length_take]; omega), List.getElem?_take, if_pos (by omega), List.getElem?_eq_getElem (by omega)]
    congr 2
    omega
  · rw [List.getElem?_set_ne (Ne.symm hj), putAt_getElem? _ _ _ e1]
    by_cases h1 : A ≤ j ∧ j < A + k
    · rw [if_pos (by rw [List.length_take]; omega), if_pos (by rw [List.length_take]; omega), List.getElem?_take, if_pos (by omega), List.getElem?_take, if_pos (by omega)]
    · rw [if_neg (by rw [List.length_take]; omega), if_neg (by rw [List.length_take]; omega)]

/-- a page of the call's own that may be written -/
structure Pw (B : Nat) (wr : World) (g m cap : Nat) (p : PBytes) : Prop where
  own : OwnB wr B 5 (.slice (some ⟨g, 0, none⟩) m cap) p
  len : m = p.length
  pos : 0 < m

theorem Pw.rd {F : Foot} {B : Nat} {wr : World} {g m cap : Nat} {p : PBytes} (h : Pw B wr g m cap p) (hF : ¬ F g) : RdB F wr (.slice (some ⟨g, 0, none⟩) m cap) p :=
  RdV.of_own' h.own (fun k hk => by simp only [Value.ownBlock, Option.some.injEq] at hk; subst hk; exact hF)
theorem Pw.lt {B : Nat} {wr : World} {g m cap : Nat} {p : PBytes} (h : Pw B wr g m cap p) : B ≤ g ∧ g < wr.heap.size := h.own.lt g rfl
theorem Pw.set {B : Nat} {wr : World} {g m cap : Nat} {p : PBytes} (h : Pw B wr g m cap p) (i : Nat) (hi : i < m) (b : UInt8) (x : Int) (hx : x = b.toNat) : Pw B (wr.setCell ⟨g, i, none⟩ (.int .u8 x)) g m cap (p.set i b) :=
  ⟨h.own.set rfl (by rw [← h.len]; exact hi) b x hx, by rw [List.length_set]; exact h.len, h.pos⟩
theorem Pw.below {B : Nat} {wr w' : World} {g m cap : Nat} {p : PBytes} (h : Pw B wr g m cap p) (hb : Below wr.heap.size wr w') : Pw B w' g m cap p := ⟨h.own.below hb, h.len, h.pos⟩
theorem chg_set (w : World) (g i : Nat) (v : Value) : Chg (G1 g) (G1 g) w (w.setCell ⟨g, i, none⟩ v) := by
  refine ⟨rfl, rfl, rfl, by simp, fun k _ hk => ?_, fun k hk => .inl hk⟩
  have hk' : g ≠ k := fun e => hk e.symm
  simp [World.setCell, Array.getElem?_modify, hk']

set_option maxHeartbeats 1000000 in
theorem r5put (w : World) (B g m cap : Nat) (p : List UInt8) (a k : Int) (A K n : Nat) (hA : a = A) (hK : k = K) (hg : Pw B w g m cap p) (h : A + K ≤ m) (hn : n < 18446744073709551616) (hm : m ≤ 100000) (hK8 : K ≤ 8) :
    Calls Tryz.prog 61 #[.slice (some ⟨g, 0, none⟩) m cap, .int .i64 a, .int .i64 k, .int .u64 n] w fun e w' => e = .returned (.tuple #[]) ∧ Pw B w' g m cap (pt p A K n) ∧ Chg (G1 g) (G1 g) w w' := by
  subst hA hK
  have hput := refput_any w n (K : Int) K rfl hn hK8
  have HPT := Lib.hid hput
  have HG := Lib.hid (And.intro hg hK8)
  have hAi : (A : Int) ≤ 100000 := by omega
  have hKi : (K : Int) ≤ 8 := by omega
  clear hput hg hn hK8
  go_enter Tryz.func61, Tryz.ntmps61
  go_wp2_with fail
  refine HPT.out.mono ?_
  rintro e w1 ⟨v1, rfl, ho1, hb1⟩
  have hbl := leBytes_length K n
  obtain ⟨bs, hbs⟩ : ∃ bs, leBytes K n = bs := ⟨_, rfl⟩
  rw [hbs] at ho1 hbl
  obtain ⟨ba, bn, bc, rfl, HBN, -, -⟩ := (OwnB.rd (F := NoF) ho1 (fun _ _ => noF _)).formN
  obtain rfl : bn = K := by rw [HBN.out]; exact hbl
  have hgw := HG.out.1.lt.2
  have HO := Lib.hid (And.intro ho1 (And.intro hb1 (And.intro hbl (And.intro hgw hbs))))
  have HG1 := Lib.hid (HG.out.1.below hb1)
  clear ho1 hb1 hbl hgw hbs HPT
  go_wp2
  go_loopw [9] (fun i wr => ∃ q : Nat, q ≤ bn ∧ i = .int .i64 (q : Int) ∧ Pw B wr g m cap (putAt p A (bs.take q)) ∧ Chg (G1 g) (G1 g) w1 wr) (fun i _ => bn - (intOf i).toNat)
  case atStart => exact ⟨0, by omega, rfl, by rw [List.take_zero, putAt_zero]; exact HG1.out, Chg.refl _ _⟩
  case round =>
    obtain ⟨q, hq, rfl, hP, hC⟩ := hrel
    rcases Nat.lt_or_eq_of_le hq with hlt | heq
    · have hor : OwnB wr w.heap.size 5 (.slice ba bn bc) bs := HO.out.1.chg hC (fun k hk hF => by
        have h1 := (HO.out.1.lt k hk).1
        have h2 := HO.out.2.2.2.1
        have h3 : k = g := hF
        omega)
      obtain ⟨bg, bc2, e, -, -, -, -, hcell, -⟩ := hor.at_ (by rw [HO.out.2.2.1]; omega)
      injection e with e1 e2 e3
      subst e1 e3
      clear e2
      have hc1 := hcell q (by rw [HO.out.2.2.1]; exact hlt)
      have hql : q < bs.length := by rw [HO.out.2.2.1]; exact hlt
      have hpl : A + bs.length ≤ p.length := by rw [HO.out.2.2.1, ← HG.out.1.len]; exact h
      have hst := putAt_step p bs A q hql hpl
      have hPs := hP.set (A + q) (by omega) bs[q] (bs[q].toNat : Int) rfl
      rw [hst] at hPs
      obtain ⟨x, hx⟩ : ∃ x : Int, ((bs[q]'hql).toNat : Int) = x := ⟨_, rfl⟩
      rw [hx] at hc1 hPs
      obtain ⟨ag, ac, e9, -, -, -, -, hcl, hfr⟩ := hP.own.at_ (by rw [← hP.len]; exact hP.pos)
      injection e9 with e10 _ e11
      injection e10 with e10
      injection e10 with e10 _ _
      subst e10 e11
      have hc2 := hcl (A + q) (by rw [← hP.len]; omega)
      have hf2 := hfr (A + q)
      obtain ⟨y, hy⟩ : ∃ y : Int, (((putAt p A (bs.take q))[A + q]'(by rw [← hP.len]; omega)).toNat : Int) = y := ⟨_, rfl⟩
      rw [hy] at hc2
      have hN : Hid (Pw B (wr.setCell ⟨g, A + q, none⟩ (.int .u8 x)) g m cap (putAt p A (bs.take (q + 1))) ∧ Chg (G1 g) (G1 g) w1 (wr.setCell ⟨g, A + q, none⟩ (.int .u8 x)) ∧ q < bn) := ⟨hPs, hC.trans (chg_set _ _ _ _), hlt⟩
      have hqi : (q : Int) < (bn : Int) := by omega
      have hq0 : (0 : Int) ≤ (q : Int) := by omega
      have hAq : (A : Int) + (q : Int) < (m : Int) := by omega
      clear hP hC hor hcell hfr hcl hst hPs hx hy hql hpl hlt hq
      go_wp2
      go_roundw
      case rel => exact ⟨q + 1, by have := hN.out.2.2; omega, by go_num, hN.out.1, hN.out.2.1⟩
      case measure => have := hN.out.2.2; simp [intOf]; omega
    · subst heq
      have hfin : Hid (Pw B wr g m cap (pt p A q n) ∧ Chg (G1 g) (G1 g) w wr) := by
        refine ⟨?_, (Chg.of_below HO.out.2.1 _).trans hC⟩
        have := hP
        rw [List.take_of_length_le (by rw [HO.out.2.2.1]; exact Nat.le_refl _)] at this
        unfold pt
        rw [HO.out.2.2.2.2]
        exact this
      clear hP hC hq
      go_wp2
      go_end0
      exact ⟨rfl, hfin.out⟩
end Mun
end

section
/- Contracts of munimentref5: Copy, Free, New, Set. -/
set_option maxRecDepth 100000
set_option linter.unusedVariables false
set_option linter.unusedSimpArgs false
namespace Mun
open Go Go.RowKit
open Go.Proofs

/-- a page of the call's own is told -/
def PwOut (w : World) (p : PBytes) (e : Ending) (w' : World) : Prop := ∃ g cap, e = .returned (.slice (some ⟨g, 0, none⟩) 512 cap) ∧ Pw w.heap.size w' g 512 cap p ∧ Below w.heap.size w w'

theorem r5copy {F : Foot} (w : World) (v : Value) (p : List UInt8) (hv : RdB F w v p) (hp : p.length = 512) : Calls Tryz.prog 60 #[v] w (PwOut w p) := by
  obtain ⟨g, cap, w1, hr, ho, hb, hg⟩ := append_nil_bytes (ty := 41) hv (by omega) (by omega)
  rw [hp] at hr ho
  obtain ⟨a1, n, c, rfl, -, -, -⟩ := hv.formN
  have HR := Lib.hid hr
  have HO := Lib.hid (And.intro ho (And.intro hb hp))
  clear hr ho hb hg hv hp
  go_enter Tryz.func60, Tryz.ntmps60
  go_wp2_with (at_builtin; refine wpList_append_eq rfl rfl HR.out rfl rfl ?_; clear HR)
  go_ret
  exact ⟨g, cap, rfl, ⟨HO.out.1, HO.out.2.2.symm, by decide⟩, HO.out.2.1⟩

theorem pt_len (p : PBytes) (a n x : Nat) (m : Nat) (hm : p.length = m) (h : a + n ≤ m) : (pt p a n x).length = m := by rw [pt_length _ _ _ _ (by omega)]; exact hm

theorem r5seal {F : Foot} (w : World) (v : Value) (p : List UInt8) (l : Nat) (hv : RdB F w v p) (hp : p.length = 512) (hl : l < 18446744073709551616) : Calls Tryz.prog 22 #[v, .int .u64 l] w (PwOut w (sealP p l)) := by
  have hc := r5copy w v p hv hp
  obtain ⟨a1, n, c, rfl, -, -, -⟩ := hv.formN
  have HC := Lib.hid hc
  have HLX := Lib.hid (And.intro hl hp)
  clear hc hv hl hp
  go_enter Tryz.func22, Tryz.ntmps22
  go_wp2_with fail
  refine HC.out.mono ?_
  rintro e w1 ⟨g, cap, rfl, hp1, hb1⟩
  have h1 := r5put w1 w.heap.size g 512 cap p 4 8 4 8 l rfl rfl hp1 (by omega) HLX.out.1 (by decide) (by decide)
  have H1 := Lib.hid h1
  have HB1 := Lib.hid hb1
  have hgB := hp1.lt.1
  clear h1 hb1 hp1 HC
  go_wp2_with fail
  refine H1.out.mono ?_
  rintro e w2 ⟨rfl, hp2, hc2⟩
  change Pw w.heap.size w2 g 512 cap (lsnP p l) at hp2
  obtain ⟨q, hq⟩ : ∃ q, lsnP p l = q := ⟨_, rfl⟩
  rw [hq] at hp2
  have HQ := Lib.hid hq
  obtain ⟨a4, c4, hs4, hr4⟩ := slice_rest (hp2.rd (F := NoF) (noF _)) 4 4 rfl (by decide) hp2.len
  have hof := refof_any w2 _ (q.drop 4) hr4
  have HOF := Lib.hid hof
  have HP2 := Lib.hid (And.intro hp2 hc2)
  clear hp2 hc2 H1 hr4 hof hq
  go_wp2_with fail
  refine HOF.out.mono ?_
  rintro e w3 ⟨rfl, rfl⟩
  have hlt := (crcOf (q.drop 4)).isLt
  obtain ⟨z, hz⟩ : ∃ z, (crcOf (q.drop 4)).toNat = z := ⟨_, rfl⟩
  rw [hz] at hlt ⊢
  have h2 := r5put w2 w.heap.size g 512 cap q 0 4 0 4 z rfl rfl HP2.out.1 (by omega) (by omega) (by decide) (by decide)
  have H2 := Lib.hid h2
  have HZ := Lib.hid hz
  have hz2 : (z : Int) < 4294967296 := by omega
  clear h2 hlt hz HOF
  go_wp2_with fail
  refine H2.out.mono ?_
  rintro e w3 ⟨rfl, hp3, hc3⟩
  have hfin : Hid (PwOut w (sealP p l) (.returned (.slice (some ⟨g, 0, none⟩) 512 cap)) w3) := by
    refine ⟨g, cap, rfl, ?_, HB1.out.trans ((HP2.out.2.trans hc3).below HB1.out.size (fun k hk e => by have h4 : k = g := e; omega))⟩
    rw [← HZ.out, ← HQ.out] at hp3
    exact hp3
  clear hp3 hc3 H2 HP2 HB1 hgB HQ HZ
  go_wp2
  go_ret
  exact hfin.out
end Mun
end

section
/- Contract of munimentref5.Good. -/
set_option maxRecDepth 100000
set_option linter.unusedVariables false
set_option linter.unusedSimpArgs false
namespace Mun
open Go Go.RowKit
open Go.Proofs

theorem info_bool : (Tryz.prog.info? 4).map (fun i => (i.zero, i.size, i.bytes)) = some (some (.bool false), 1, 1) := by kernel_rfl
@[irreducible] def tkb0 : Array Value := tkA (List.replicate 512 false)
theorem tkb0_eq : tkb0 = tkA (List.replicate 512 false) := by unfold tkb0; rfl
theorem madeCells_bool (n : Nat) : madeCells #[Value.bool false] n = tkA (List.replicate n false) := by
  apply Array.ext_getElem?
  intro i
  by_cases h : i < n
  · simp [madeCells, tkA, h, Nat.mod_one]
  · simp [madeCells, tkA, h]
theorem make_used (w : World) : (Instr.makeSlice 120 (.int .i64 512) (.int .i64 512)).run Tryz.prog w = .ok (.slice (some ⟨w.heap.size, 0, none⟩) 512 512) (w.alloc (.cells tkb0 4)) := by
  obtain ⟨i, hi, hz, h1, h2⟩ := info_of info_bool
  have hr := run_make (P := Tryz.prog) w _ _ i _ Tryz.underlying120 hi hz .i64 .i64 512 512 (by omega) (by omega) (by rw [h2]; omega) (by omega)
  rw [h1] at hr
  have e : madeCells #[Value.bool false] 512 = tkb0 := by rw [tkb0_eq]; exact madeCells_bool 512
  have e2 : (512 : Int).toNat * 1 = 512 := rfl
  simp only [Value.cells, e2] at hr
  rw [e] at hr
  exact hr

structure GdS (w0 wr : World) (T : Nat) (l : List Bool) : Prop where
  bl : Below w0.heap.size w0 wr
  tk : wr.heap[T]? = some (.cells (tkA l) 4 (0, 0))
  len : l.length = 512
  hT : w0.heap.size ≤ T
theorem GdS.cell {w0 wr : World} {T : Nat} {l : List Bool} (h : GdS w0 wr T l) (k : Nat) (hk : k < l.length) : wr.cell? ⟨T, k, none⟩ = some (.bool l[k]) := by
  rw [cell_of_row wr T k _ _ _ h.tk, tkA_get l k hk]
theorem GdS.frozen {w0 wr : World} {T : Nat} {l : List Bool} (h : GdS w0 wr T l) (k : Nat) : wr.frozen? ⟨T, k, none⟩ = false := by simp [World.frozen?, h.tk]
theorem GdS.set {w0 wr : World} {T : Nat} {l : List Bool} (h : GdS w0 wr T l) (k : Nat) (hk : k < l.length) : GdS w0 (wr.setCell ⟨T, k, none⟩ (.bool true)) T (l.set k true) := by
  refine ⟨h.bl.setCell h.hT _, ?_, by rw [List.length_set]; exact h.len, h.hT⟩
  have h1 := h.tk
  have : (tkA l).setIfInBounds k (.bool true) = tkA (l.set k true) := by simp [tkA, List.map_set]
  rw [← this]
  simp [World.setCell, Array.getElem?_modify, h1]

set_option maxHeartbeats 4000000 in
theorem r5good {F : Foot} (w : World) (v : Value) (p : List UInt8) (hv : RdB F w v p) : Calls Tryz.prog 20 #[v] w fun e w' => e = .returned (.bool (goodB p)) ∧ Below w.heap.size w w' := by
  by_cases hp : p.length = 512
  · obtain ⟨g, off, c, rfl, hlc, hcm, hF, hglt, hcells⟩ := hv.at_ (by omega)
    have c13 := hcells 13 (by omega)
    obtain ⟨z, hz⟩ : ∃ z : Nat, p[13].toNat = z := ⟨_, rfl⟩
    rw [hz] at c13
    have hz0 : z = 0 ↔ p[13]? = some 0 := by
      rw [List.getElem?_eq_getElem (by omega)]
      constructor
      · intro h; rw [← hz] at h; congr 1; exact UInt8.toNat_inj.1 h
      · intro h; injection h with h; rw [← hz, h]; rfl
    have HP := Lib.hid hp
    rw [hp] at hv ⊢
    have HV0 := Lib.hid hv
    by_cases h13 : z = 0
    · subst h13
      have h130 := Lib.hid (hz0.1 rfl)
      have hcn := r5count w _ p hv (by rw [HP.out]; decide)
      have hlw := reflow_any w _ p hv (by rw [HP.out]; decide)
      have b1 : lowP p < 65536 := gt2_lt p 16
      have b2 : cnt p < 65536 := gt2_lt p 14
      obtain ⟨lo, hlo⟩ : ∃ lo, lowP p = lo := ⟨_, rfl⟩
      obtain ⟨n, hnn⟩ : ∃ n, cnt p = n := ⟨_, rfl⟩
      rw [hlo] at hlw b1
      rw [hnn] at hcn b2
      have HLO := Lib.hid hlo
      have HNN := Lib.hid hnn
      have HCN := Lib.hid hcn
      have HLW := Lib.hid hlw
      have hmk := make_used w
      have ht : (((0 : Nat) : Int) != 0) = false := rfl
      clear hcells hz hz0 hv hcn hlw hp hlo hnn hF
      go_enter Tryz.func20, Tryz.ntmps20
      go_wp2_with fail
      refine HCN.out.mono ?_
      rintro e w2 ⟨rfl, rfl⟩
      go_wp2_with fail
      refine HLW.out.mono ?_
      rintro e w2 ⟨rfl, rfl⟩
      clear HCN HLW c13
      by_cases hfit : 26 + 4 * n ≤ lo
      · by_cases hlow : lo ≤ 512
        · have hfi : 26 + 4 * (n : Int) ≤ (lo : Int) := by omega
          have hli : (lo : Int) ≤ 512 := by omega
          have HFL : Hid (26 + 4 * n ≤ lo ∧ lo ≤ 512) := by show _ ∧ _; omega
          have HHD : Hid (headOk p) := by show headOk p; exact ⟨HP.out, h130.out, by rw [HLO.out, HNN.out]; omega, by rw [HLO.out]; omega⟩
          clear hfit hlow
          have hst : GdS w (w.alloc (.cells tkb0 4)) w.heap.size (List.replicate 512 false) := by
            refine ⟨(Below.refl _ _).alloc (Nat.le_refl _) _, ?_, by simp, Nat.le_refl _⟩
            rw [← tkb0_eq]
            exact heap_alloc_new w _
          have HST := Lib.hid hst
          have hni : n ≤ 121 := by omega
          clear hst
          go_wp2
          clear hmk
          go_loopw [6] (fun i wr => ∃ (k : Nat) (l : List Bool), k ≤ n ∧ i = .int .i64 (k : Int) ∧ GdS w wr w.heap.size l ∧ tkInv p k l ∧ okUpto p k) (fun i _ => n - (intOf i).toNat)
          case atStart => exact ⟨0, _, by omega, rfl, HST.out, tkInv_zero p, ⟨fun j hj => by omega, fun a b _ hb => by omega⟩⟩
          case round =>
            obtain ⟨k, l, hk, rfl, hR, hI, hO⟩ := hrel
            rcases Nat.lt_or_eq_of_le hk with hlt | heq
            · have hfl := HFL.out
              have hsl := r5slot wr _ p k (RdB.below HV0.out hR.bl) (by rw [HP.out]; omega) (by rw [HP.out]; decide)
              have hb1 : sFrom p k < 65536 := gt2_lt p _
              have hb2 : sSize p k < 65536 := gt2_lt p _
              obtain ⟨f, hf⟩ : ∃ f, sFrom p k = f := ⟨_, rfl⟩
              obtain ⟨s, hs⟩ : ∃ s, sSize p k = s := ⟨_, rfl⟩
              rw [hf] at hsl hb1
              rw [hs] at hsl hb2
              have HK : Hid (k < n ∧ sFrom p k = f ∧ sSize p k = s ∧ f < 65536 ∧ s < 65536) := ⟨hlt, hf, hs, hb1, hb2⟩
              have HR := Lib.hid (And.intro hR (And.intro hI hO))
              have HSL := Lib.hid hsl
              have hki : (k : Int) < (n : Int) := by omega
              have hk0 : (0 : Int) ≤ (k : Int) := by omega
              clear hR hI hO hsl hf hs hlt hk hfl hb1 hb2
              go_wp2_with fail
              refine HSL.out.mono ?_
              rintro e w5 ⟨rfl, rfl⟩
              have hkk := HK.out
              have hf1 : f < 65536 := hkk.2.2.2.1
              have hs1 : s < 65536 := hkk.2.2.2.2
              by_cases hc1 : f < lo
              · have HG : Hid (goodB p = false) := by
                  show _ = _
                  exact goodB_false (not_good_cell (by rw [HNN.out]; exact hkk.1) (fun h => by have := h.1; rw [HLO.out, hkk.2.1] at this; omega))
                have hci : (f : Int) < (lo : Int) := by omega
                clear hkk hc1
                go_wp2
                go_ret
                exact ⟨by rw [HG.out]; rfl, HR.out.1.bl⟩
              · by_cases hc2 : f + s ≤ 512
                · have hci : ¬ (f : Int) < (lo : Int) := by omega
                  have hc2i : (f : Int) + (s : Int) ≤ 512 := by omega
                  have HCC : Hid (lo ≤ f ∧ f + s ≤ 512) := by show _ ∧ _; omega
                  clear hkk hc1 hc2
                  go_wp2
                  obtain ⟨wm, rfl⟩ : ∃ wm : World, wm = wr := ⟨_, rfl⟩
                  go_loopw [9] (fun kk wr2 => ∃ (x : Nat) (l2 : List Bool), f ≤ x ∧ x ≤ f + s ∧ kk = .int .i64 (x : Int) ∧ GdS w wr2 w.heap.size l2 ∧ tkMid p k x l2 ∧ (∀ y, f ≤ y → y < x → ¬ ∃ j, j < k ∧ inC p j y)) (fun kk _ => f + s - (intOf kk).toNat)
                  case atStart =>
                    refine ⟨f, l, Nat.le_refl _, by omega, rfl, HR.out.1, ?_, fun y h1 h2 => by omega⟩
                    have := tkMid_start HR.out.2.1
                    rw [HK.out.2.1] at this
                    exact this
                  case round =>
                    obtain ⟨x, l2, hx1, hx2, rfl, hR2, hM2, hF2⟩ := hrel
                    rcases Nat.lt_or_eq_of_le hx2 with hxlt | hxeq
                    · have hcc := HCC.out
                      have hx512 : x < l2.length := by rw [hR2.len]; omega
                      have hcl := hR2.cell x hx512
                      have hfr := hR2.frozen x
                      cases hb : l2[x] with
                      | true =>
                        have hex : ∃ j, j < k ∧ inC p j x := by
                          have := (hM2 x (by omega)).1 (by rw [List.getElem?_eq_getElem hx512, hb])
                          rcases this with h | h
                          · exact h
                          · omega
                        have HG : Hid (goodB p = false) := by
                          show _ = _
                          have hkk := HK.out
                          exact goodB_false (not_good_taken (k := x) (by rw [HNN.out]; exact hkk.1) ⟨by rw [hkk.2.1]; exact hx1, by rw [hkk.2.1, hkk.2.2.1]; exact hxlt⟩ hex)
                        rw [hb] at hcl
                        have HB := Lib.hid hR2.bl
                        have hxi : (x : Int) < (f : Int) + (s : Int) := by omega
                        have hxn : x < 512 := by omega
                        clear hR2 hM2 hF2 hex hb hcc hx1 hx2 hxlt hx512
                        go_wp2
                        go_ret
                        exact ⟨by rw [HG.out]; rfl, HB.out⟩
                      | false =>
                        have hnex : ¬ ∃ j, j < k ∧ inC p j x := by
                          intro h
                          have := (hM2 x (by omega)).2 (.inl h)
                          rw [List.getElem?_eq_getElem hx512, hb] at this
                          cases this
                        have hset := hR2.set x hx512
                        have hmid := tkMid_step hM2 hR2.len (by rw [HK.out.2.1]; exact hx1) (by omega)
                        have HN2 : Hid (GdS w (wr.setCell ⟨w.heap.size, x, none⟩ (.bool true)) w.heap.size (l2.set x true) ∧ tkMid p k (x + 1) (l2.set x true) ∧ (∀ y, f ≤ y → y < x + 1 → ¬ ∃ j, j < k ∧ inC p j y) ∧ f ≤ x ∧ x < f + s) := by
                          refine ⟨hset, hmid, fun y h1 h2 => ?_, hx1, hxlt⟩
                          rcases Nat.lt_or_eq_of_le (Nat.lt_succ_iff.1 h2) with h | rfl
                          · exact hF2 y h1 h
                          · exact hnex
                        rw [hb] at hcl
                        have hxi : (x : Int) < (f : Int) + (s : Int) := by omega
                        have hxn : x < 512 := by omega
                        clear hR2 hM2 hF2 hnex hb hcc hx1 hx2 hxlt hx512 hset hmid
                        go_wp2
                        go_roundw
                        case rel => exact ⟨x + 1, _, by have := HN2.out; omega, by have := HN2.out; omega, by go_num, HN2.out.1, HN2.out.2.1, HN2.out.2.2.1⟩
                        case measure => have := HN2.out; simp [intOf]; omega
                    · subst hxeq
                      have HE : Hid (GdS w wr w.heap.size l2 ∧ tkInv p (k + 1) l2 ∧ okUpto p (k + 1)) := by
                        have hkk := HK.out
                        refine ⟨hR2, tkMid_end (by rw [hkk.2.1, hkk.2.2.1]; exact hM2), okUpto_succ HR.out.2.2 ?_ ?_⟩
                        · rw [hkk.2.1, hkk.2.2.1, HLO.out]; exact HCC.out
                        · intro y hy
                          unfold inC at hy
                          rw [hkk.2.1, hkk.2.2.1] at hy
                          exact hF2 y hy.1 hy.2
                      have hxi : ¬ (((f + s : Nat) : Int) < (f : Int) + (s : Int)) := by omega
                      clear hR2 hM2 hF2 hx1 hx2
                      go_wp2
                      go_roundw
                      case rel => exact ⟨k + 1, l2, by have := HK.out; omega, by go_num, HE.out.1, HE.out.2.1, HE.out.2.2⟩
                      case measure => have := HK.out; simp [intOf]; omega
                · have HG : Hid (goodB p = false) := by
                    show _ = _
                    exact goodB_false (not_good_cell (by rw [HNN.out]; exact hkk.1) (fun h => by have := h.2; rw [hkk.2.1, hkk.2.2.1] at this; omega))
                  have hci : ¬ (f : Int) < (lo : Int) := by omega
                  have hc2i : (f : Int) + (s : Int) > 512 := by omega
                  clear hkk hc1 hc2
                  go_wp2
                  go_ret
                  exact ⟨by rw [HG.out]; rfl, HR.out.1.bl⟩
            · subst heq
              have HG : Hid (goodB p = true) := by show _ = _; exact goodB_true (good_of HHD.out (by rw [HNN.out]; exact hO))
              have HB := Lib.hid hR.bl
              clear hR hI hO hk
              go_wp2
              go_ret
              exact ⟨by rw [HG.out]; rfl, HB.out⟩
        · have HG : Hid (goodB p = false) := by show _ = _; exact goodB_false (fun h => hlow (by rw [← HLO.out]; exact h.low))
          have hfi : 26 + 4 * (n : Int) ≤ (lo : Int) := by omega
          have hli : ((lo : Int) > 512) := by omega
          clear hfit hlow hmk
          go_wp2
          go_ret
          exact ⟨by rw [HG.out]; rfl, Below.refl _ _⟩
      · have HG : Hid (goodB p = false) := by show _ = _; exact goodB_false (fun h => hfit (by rw [← HLO.out, ← HNN.out]; exact h.fit))
        have hfi : 26 + 4 * (n : Int) > (lo : Int) := by omega
        clear hfit hmk
        go_wp2
        go_ret
        exact ⟨by rw [HG.out]; rfl, Below.refl _ _⟩
    · have HG : Hid (goodB p = false) := by show _ = _; exact goodB_false (fun h => h13 (hz0.2 h.none))
      have t13 : ((z : Int) == 0) = false := by simpa using h13
      have t14 : ((z : Int) != 0) = true := by simpa using h13
      clear hcells hz hz0 hv
      go_enter Tryz.func20, Tryz.ntmps20
      go_wp2
      go_ret
      exact ⟨by rw [HG.out]; rfl, Below.refl _ _⟩
  · have HG : Hid (goodB p = false) := by show _ = _; exact goodB_false (fun h => hp h.len)
    obtain ⟨a, n, c, rfl, HN, hlc, hcm⟩ := hv.formN
    have hn : ((n : Int) != 512) = true := by have := HN.out; simp; omega
    have hn2 : ((n : Int) == 512) = false := by have := HN.out; simp; omega
    clear hv hp
    go_enter Tryz.func20, Tryz.ntmps20
    go_wp2
    go_ret
    exact ⟨by rw [HG.out]; rfl, Below.refl _ _⟩
end Mun
end

section
/- Plain: the reference's pages are the program's. No program in sight. -/
set_option linter.unusedVariables false
set_option linter.unusedSimpArgs false
namespace Mun

theorem putAt_len (p : PBytes) (A : Nat) (x : PBytes) (hp : p.length = 512) (h : A + x.length ≤ 512) : (putAt p A x).length = 512 := by rw [putAt_length _ _ _ (by omega)]; exact hp
theorem putAt_get (p : PBytes) (A : Nat) (x : PBytes) (hp : p.length = 512) (h : A + x.length ≤ 512) (j : Nat) : (putAt p A x)[j]? = if A ≤ j ∧ j < A + x.length then x[j - A]? else p[j]? := putAt_getElem? _ _ _ (by omega) j
theorem putAt_comm (p : PBytes) (A B : Nat) (x y : PBytes) (hp : p.length = 512) (hA : A + x.length ≤ 512) (hB : B + y.length ≤ 512) (h : A + x.length ≤ B ∨ B + y.length ≤ A) :
    putAt (putAt p A x) B y = putAt (putAt p B y) A x := by
  apply List.ext_getElem?
  intro j
  rw [putAt_get _ _ _ (putAt_len _ _ _ hp hA) hB, putAt_get _ _ _ hp hA, putAt_get _ _ _ (putAt_len _ _ _ hp hB) hA, putAt_get _ _ _ hp hB]
  by_cases c1 : B ≤ j ∧ j < B + y.length
  · rw [if_pos c1, if_neg (by omega), if_pos c1]
  · rw [if_neg c1, if_neg c1]
theorem putAt_app (p : PBytes) (A : Nat) (x y : PBytes) (hp : p.length = 512) (h : A + x.length + y.length ≤ 512) : putAt p A (x ++ y) = putAt (putAt p A x) (A + x.length) y := by
  have hl : (x ++ y).length = x.length + y.length := List.length_append
  apply List.ext_getElem?
  intro j
  rw [putAt_get _ _ _ hp (by omega), putAt_get _ _ _ (putAt_len _ _ _ hp (by omega)) (by omega), putAt_get _ _ _ hp (by omega), hl]
  by_cases c1 : A ≤ j ∧ j < A + x.length
  · rw [if_pos (by omega), if_neg (by omega), if_pos c1, List.getElem?_append_left (by omega)]
  · by_cases c2 : A + x.length ≤ j ∧ j < A + x.length + y.length
    · rw [if_pos (by omega), if_pos c2, List.getElem?_append_right (by omega)]
      congr 1
      omega
    · rw [if_neg (by omega), if_neg c2, if_neg c1]
theorem putAt_win (p : PBytes) (A n : Nat) (hp : p.length = 512) (h : A + n ≤ 512) : putAt p A (win p A n) = p := by
  have hw := win_length p A n (by omega)
  apply List.ext_getElem?
  intro j
  rw [putAt_get _ _ _ hp (by omega), hw]
  by_cases c1 : A ≤ j ∧ j < A + n
  · rw [if_pos c1]
    unfold win
    rw [List.getElem?_take, if_pos (by omega), List.getElem?_drop]
    congr 1
    omega
  · rw [if_neg c1]
theorem le_win (p : PBytes) (A n : Nat) (h : A + n ≤ p.length) : leBytes n (gt p A n) = win p A n := by
  have := leBytes_leNat (win p A n)
  rw [win_length _ _ _ h] at this
  rw [gt_win]
  exact this
theorem pt_gt (p q : PBytes) (A n B : Nat) (hp : p.length = 512) (hB : B + n ≤ 512) : pt q A n (gt p B n) = putAt q A (win p B n) := by
  unfold pt
  rw [le_win _ _ _ (by omega)]

/-- five lay in, in two orders -/
theorem five (u : PBytes) (a1 a2 a3 a4 a5 : Nat) (x1 x2 x3 x4 x5 : PBytes) (hu : u.length = 512) (h1 : a1 + x1.length ≤ 512) (h2 : a2 + x2.length ≤ 512) (h3 : a3 + x3.length ≤ 512) (h4 : a4 + x4.length ≤ 512) (h5 : a5 + x5.length ≤ 512)
    (d12 : a1 + x1.length ≤ a2 ∨ a2 + x2.length ≤ a1) (d13 : a1 + x1.length ≤ a3 ∨ a3 + x3.length ≤ a1) (d14 : a1 + x1.length ≤ a4 ∨ a4 + x4.length ≤ a1) (d15 : a1 + x1.length ≤ a5 ∨ a5 + x5.length ≤ a1)
    (d23 : a2 + x2.length ≤ a3 ∨ a3 + x3.length ≤ a2) (d24 : a2 + x2.length ≤ a4 ∨ a4 + x4.length ≤ a2) (d25 : a2 + x2.length ≤ a5 ∨ a5 + x5.length ≤ a2)
    (d35 : a3 + x3.length ≤ a5 ∨ a5 + x5.length ≤ a3) (d34 : a3 + x3.length ≤ a4 ∨ a4 + x4.length ≤ a3) (d45 : a4 + x4.length ≤ a5 ∨ a5 + x5.length ≤ a4) :
    putAt (putAt (putAt (putAt (putAt u a1 x1) a2 x2) a3 x3) a4 x4) a5 x5 = putAt (putAt (putAt (putAt (putAt u a3 x3) a5 x5) a4 x4) a1 x1) a2 x2 := by
  have l1 := putAt_len u a1 x1 hu h1
  have l2 := putAt_len _ a2 x2 l1 h2
  have l3 := putAt_len _ a3 x3 l2 h3
  have l4 := putAt_len _ a4 x4 l3 h4
  have m1 := putAt_len u a3 x3 hu h3
  have m2 := putAt_len _ a5 x5 m1 h5
  have m3 := putAt_len _ a4 x4 m2 h4
  have m4 := putAt_len _ a1 x1 m3 h1
  apply List.ext_getElem?
  intro j
  rw [putAt_get _ _ _ l4 h5, putAt_get _ _ _ l3 h4, putAt_get _ _ _ l2 h3, putAt_get _ _ _ l1 h2, putAt_get _ _ _ hu h1, putAt_get _ _ _ m4 h2, putAt_get _ _ _ m3 h1, putAt_get _ _ _ m2 h4, putAt_get _ _ _ m1 h5, putAt_get _ _ _ hu h3]
  by_cases c1 : a1 ≤ j ∧ j < a1 + x1.length
  · rw [if_neg (by omega), if_neg (by omega), if_neg (by omega), if_neg (by omega), if_pos c1, if_neg (by omega), if_pos c1]
  · rw [if_neg c1, if_neg c1]
    by_cases c2 : a2 ≤ j ∧ j < a2 + x2.length
    · rw [if_neg (by omega), if_neg (by omega), if_neg (by omega), if_pos c2, if_pos c2]
    · rw [if_neg c2, if_neg c2]
      by_cases c4 : a4 ≤ j ∧ j < a4 + x4.length
      · rw [if_neg (by omega), if_pos c4, if_pos c4]
      · rw [if_neg c4, if_neg c4]

theorem AnewD.unique {p q r : PBytes} (h : AnewOk p) (hd : AnewD p q) (he : AnewD p r) : q = r := by
  obtain ⟨n, hn⟩ : ∃ n, Mun.cnt p = n := ⟨_, rfl⟩
  have hfit := h.fit
  rw [hn] at hfit
  refine eq_of_wins hd.len he.len n (512 - szs p n) (by omega) (by omega) ?_ ?_ ?_ ?_
  · have e : ∀ r : PBytes, win r 0 26 = win r 0 16 ++ (win r 16 2 ++ win r 18 8) := by
      intro r
      rw [show (26 : Nat) = 16 + (2 + 8) by rfl, win_append, win_append]
    rw [e, e r, he.head 0 16 (by omega), he.head 18 8 (by omega), hd.head 0 16 (by omega), hd.head 18 8 (by omega), win_of_gt (p := q) (q := r) (a := 16) (n := 2) (by rw [hd.len]; omega) (by rw [he.len]; omega) ?_]
    show lowP q = lowP r
    rw [he.low, hd.low]
  · refine slots_win hd.len he.len n (by omega) (fun j hj => ⟨?_, ?_⟩)
    · rw [he.from_ j (by rw [hn]; exact hj), hd.from_ j (by rw [hn]; exact hj)]
    · rw [he.size j (by rw [hn]; exact hj), hd.size j (by rw [hn]; exact hj)]
  · have h1 := he.zero
    have h2 := hd.zero
    rw [hn] at h1 h2
    rw [h1, h2]
  · rw [show 512 - (512 - szs p n) = szs p n by omega]
    refine cells_win (sSize p) (szs p) n (fun k _ => rfl) rfl (by omega) (fun j hj => ?_)
    have h1 := he.cell j (by rw [hn]; exact hj)
    have h2 := hd.cell j (by rw [hn]; exact hj)
    rw [cellP_win, he.from_ j (by rw [hn]; exact hj), he.size j (by rw [hn]; exact hj)] at h1
    rw [cellP_win, hd.from_ j (by rw [hn]; exact hj), hd.size j (by rw [hn]; exact hj)] at h2
    rw [h1, h2]

/-- the reference's laying out anew -/
def rcZ (p : PBytes) : PBytes := putAt p (26 + 4 * cnt p) (zer (512 - (26 + 4 * cnt p)))
def rcS (p : PBytes) : Nat → PBytes
  | 0 => rcZ p
  | k + 1 => pt (putAt (rcS p k) (512 - szs p (k + 1)) (cellP p k)) (26 + 4 * k) 2 (512 - szs p (k + 1))
def rcompP (p : PBytes) : PBytes := pt (rcS p (cnt p)) 16 2 (512 - szs p (cnt p))

structure RcI (p : PBytes) (k : Nat) (q : PBytes) : Prop where
  len : q.length = 512
  head : ∀ a n, a + n ≤ 26 → win q a n = win p a n
  size : ∀ j, j < cnt p → sSize q j = sSize p j
  from_ : ∀ j, j < k → sFrom q j = 512 - szs p (j + 1)
  cell : ∀ j, j < k → win q (512 - szs p (j + 1)) (sSize p j) = cellP p j
  zero : ∀ a n, 26 + 4 * cnt p ≤ a → a + n ≤ 512 - szs p k → win q a n = zer n

theorem rcS_inv {p : PBytes} (h : AnewOk p) : ∀ k, k ≤ cnt p → RcI p k (rcS p k)
  | 0, _ => by
    have hfit := h.fit
    have hz := zer_length (512 - (26 + 4 * cnt p))
    have hzl : 26 + 4 * cnt p + (zer (512 - (26 + 4 * cnt p))).length ≤ p.length := by rw [hz, h.len]; omega
    refine ⟨by unfold rcS rcZ; rw [putAt_length _ _ _ hzl, h.len], fun a n han => ?_, fun j hj => ?_, fun j hj => by omega, fun j hj => by omega, fun a n h1 h2 => ?_⟩
    · unfold rcS rcZ
      exact win_putAt _ _ _ _ _ hzl (by omega)
    · unfold rcS rcZ
      exact sSize_putAt _ _ _ _ hzl (by omega)
    · unfold rcS rcZ
      rw [show szs p 0 = 0 from rfl] at h2
      rw [win_putAt_in _ _ _ _ _ hzl h1 (by omega)]
      unfold win zer
      rw [List.drop_replicate, List.take_replicate]
      congr 1
      omega
  | k + 1, hk => by
    have ih := rcS_inv h k (by omega)
    have h1 : szs p (k + 1) ≤ szs p (cnt p) := szs_mono p hk
    have h2 : szs p (k + 1) = szs p k + sSize p k := rfl
    have hl := cellP_length h (show k < cnt p by omega)
    have hfit := h.fit
    obtain ⟨d, hd⟩ : ∃ d, 512 - szs p (k + 1) = d := ⟨_, rfl⟩
    have hdl : d + (cellP p k).length ≤ (rcS p k).length := by rw [ih.len, hl]; omega
    have hpl : (putAt (rcS p k) d (cellP p k)).length = 512 := by rw [putAt_length _ _ _ hdl, ih.len]
    have e : rcS p (k + 1) = pt (putAt (rcS p k) d (cellP p k)) (26 + 4 * k) 2 d := by rw [← hd]; rfl
    rw [e]
    refine ⟨by rw [pt_length _ _ _ _ (by omega), hpl], fun a n han => ?_, fun j hj => ?_, fun j hj => ?_, fun j hj => ?_, fun a n h3 h4 => ?_⟩
    · rw [win_pt _ _ _ _ _ _ (by omega) (by omega), win_putAt _ _ _ _ _ hdl (by omega), ih.head a n han]
    · have e1 : sSize (pt (putAt (rcS p k) d (cellP p k)) (26 + 4 * k) 2 d) j = sSize (putAt (rcS p k) d (cellP p k)) j := gt_of_win (win_pt _ _ _ _ _ _ (by omega) (by omega))
      rw [e1, sSize_putAt _ _ _ _ hdl (by omega), ih.size j hj]
    · by_cases hjk : j = k
      · subst hjk
        show gt _ (26 + 4 * j) 2 = _
        rw [gt_pt2 _ _ _ (by omega) (by omega), hd]
      · have e1 : sFrom (pt (putAt (rcS p k) d (cellP p k)) (26 + 4 * k) 2 d) j = sFrom (putAt (rcS p k) d (cellP p k)) j := gt_of_win (win_pt _ _ _ _ _ _ (by omega) (by omega))
        rw [e1, sFrom_putAt _ _ _ _ hdl (by omega), ih.from_ j (by omega)]
    · by_cases hjk : j = k
      · subst hjk
        rw [hd, win_pt _ _ _ _ _ _ (by omega) (by omega)]
        have := win_putAt_same _ _ _ hdl
        rw [hl] at this
        exact this
      · have h5 : szs p (j + 1) ≤ szs p k := szs_mono p (by omega)
        have h6 : szs p (j + 1) = szs p j + sSize p j := rfl
        rw [win_pt _ _ _ _ _ _ (by omega) (by omega), win_putAt _ _ _ _ _ hdl (by omega), ih.cell j (by omega)]
    · rw [win_pt _ _ _ _ _ _ (by omega) (by omega), win_putAt _ _ _ _ _ hdl (by omega), ih.zero a n h3 (by omega)]

theorem rcomp_inv {p : PBytes} (h : AnewOk p) : AnewD p (rcompP p) := by
  have hi := rcS_inv h (cnt p) (Nat.le_refl _)
  have hfit := h.fit
  obtain ⟨n, hn⟩ : ∃ n, cnt p = n := ⟨_, rfl⟩
  obtain ⟨lo, hlo⟩ : ∃ lo, 512 - szs p n = lo := ⟨_, rfl⟩
  have e : rcompP p = pt (rcS p n) 16 2 lo := by unfold rcompP; rw [hn, hlo]
  rw [hn] at hfit hi
  have hl := hi.len
  have h2 := hi.size
  have h6 := hi.zero
  rw [hn] at h2 h6
  rw [e]
  have hfr : ∀ j, j < n → sFrom (pt (rcS p n) 16 2 lo) j = 512 - szs p (j + 1) := fun j hj => by rw [sFrom_pt _ _ _ _ _ (by omega) (by omega)]; exact hi.from_ j hj
  have hsz : ∀ j, j < n → sSize (pt (rcS p n) 16 2 lo) j = sSize p j := fun j hj => by rw [sSize_pt _ _ _ _ _ (by omega) (by omega)]; exact h2 j hj
  refine ⟨by rw [pt_length _ _ _ _ (by omega), hl], fun a m h => ?_, ?_, ?_, ?_, ?_, ?_, ?_⟩
  · rw [win_pt _ _ _ _ _ _ (by omega) (by omega), hi.head _ _ (by omega)]
  · rw [hn, hlo]
    show gt _ 16 2 = lo
    rw [gt_pt2 _ _ _ (by omega) (by omega)]
  · exact gt_of_win (by rw [win_pt _ _ _ _ _ _ (by omega) (by omega), hi.head _ _ (by omega)])
  · rw [hn]; exact hfr
  · rw [hn]; exact hsz
  · rw [hn]
    intro j hj
    have h7 : szs p (j + 1) ≤ szs p n := szs_mono p hj
    have h8 : szs p (j + 1) = szs p j + sSize p j := rfl
    rw [cellP_win, hfr j hj, hsz j hj, win_pt _ _ _ _ _ _ (by omega) (by omega), hi.cell j hj]
  · rw [hn, hlo, win_pt _ _ _ _ _ _ (by omega) (by omega), h6 _ _ (Nat.le_refl _) (by omega)]

theorem rcomp_eq {p : PBytes} (h : AnewOk p) : rcompP p = anewP p := AnewD.unique h (rcomp_inv h) (anewP_inv h)

/-- the reference's hole: the size alone -/
def rholeP (p : PBytes) (i : Nat) : PBytes := pt p (26 + 4 * i + 2) 2 0
structure HoleE (p h : PBytes) (i : Nat) : Prop where
  ok : AnewOk h
  cnt : cnt h = cnt p
  low : lowP h = lowP p

theorem rhole_sizes {p : PBytes} (hg : GoodP p) {i : Nat} (hi : i < cnt p) : (∀ j, j < cnt p → sSize (rholeP p i) j = sSize (holeP p i) j) ∧ (∀ j, j < cnt p → j ≠ i → sFrom (rholeP p i) j = sFrom (holeP p i) j) ∧ sFrom (rholeP p i) i = sFrom p i ∧ sSize (rholeP p i) i = 0 := by
  have hl := hg.len
  have hf := hg.fit
  have hlo := hg.low
  have e2 : ∀ j, j ≠ i → sSize (rholeP p i) j = sSize p j := fun j h => gt_of_win (win_pt _ _ _ _ _ _ (by omega) (by omega))
  have e1 : ∀ j, sFrom (rholeP p i) j = sFrom p j := fun j => gt_of_win (win_pt _ _ _ _ _ _ (by omega) (by omega))
  have e0 : sSize (rholeP p i) i = 0 := gt_pt2 p (26 + 4 * i + 2) 0 (by omega) (by omega)
  refine ⟨fun j hj => ?_, fun j hj h => ?_, e1 i, e0⟩
  · by_cases h : j = i
    · subst h
      rw [e0]
      unfold holeP
      rw [sSize_ss _ _ _ _ (by omega) (by omega)]
    · rw [e2 j h]
      unfold holeP
      rw [sSize_ss_ne _ _ _ _ _ (by omega) h]
  · rw [e1 j]
    unfold holeP
    rw [sFrom_ss_ne _ _ _ _ _ (by omega) h]

theorem rhole_win {p : PBytes} (hg : GoodP p) {i : Nat} (hi : i < cnt p) (a n : Nat) (h : a + n ≤ 26 + 4 * i ∨ 26 + 4 * i + 4 ≤ a) : win (rholeP p i) a n = win (holeP p i) a n := by
  have hl := hg.len
  have hf := hg.fit
  have hlo := hg.low
  unfold rholeP holeP
  rw [win_pt _ _ _ _ _ _ (by omega) (by omega), win_ss _ _ _ _ _ _ (by omega) (by omega)]

theorem rhole_ok {p : PBytes} (hg : GoodP p) {i : Nat} (hi : i < cnt p) : AnewOk (rholeP p i) ∧ cnt (rholeP p i) = cnt p ∧ lowP (rholeP p i) = lowP p := by
  have hl := hg.len
  have hf := hg.fit
  have hlo := hg.low
  have hh := good_anewOk (hole_good hg hi)
  have hc : cnt (holeP p i) = cnt p := cnt_ss _ _ _ _ (by omega)
  have c1 : cnt (rholeP p i) = cnt p := by rw [← hc]; exact gt_of_win (rhole_win hg hi _ _ (by omega))
  have c2 : lowP (rholeP p i) = lowP p := by rw [← lowP_ss p i (lowP p) 0 (by omega)]; exact gt_of_win (rhole_win hg hi _ _ (by omega))
  obtain ⟨s1, s2, s3, s4⟩ := rhole_sizes hg hi
  have hfit := hh.fit
  have hcell := hh.cell
  rw [hc] at hfit hcell
  refine ⟨⟨by unfold rholeP; rw [pt_length _ _ _ _ (by omega), hl], ?_, ?_⟩, c1, c2⟩
  · rw [c1, szs_congr s1]
    exact hfit
  · rw [c1]
    intro j hj
    by_cases h : j = i
    · subst h
      rw [s3, s4]
      have := hg.cell j hi
      omega
    · rw [s2 j hj h, s1 j hj]
      exact hcell j hj

theorem rhole_anew {p : PBytes} (hg : GoodP p) {i : Nat} (hi : i < cnt p) : rcompP (rholeP p i) = anewP (holeP p i) := by
  have hl := hg.len
  have hf := hg.fit
  have hlo := hg.low
  have hh := good_anewOk (hole_good hg hi)
  have hc : cnt (holeP p i) = cnt p := cnt_ss _ _ _ _ (by omega)
  obtain ⟨ho, c1, c2⟩ := rhole_ok hg hi
  obtain ⟨s1, s2, s3, s4⟩ := rhole_sizes hg hi
  have hd := rcomp_inv ho
  refine AnewD.unique hh ?_ (anewP_inv hh)
  have hz : ∀ k, k ≤ cnt p → szs (rholeP p i) k = szs (holeP p i) k := fun k hk => szs_congr (fun j hj => s1 j (by omega))
  have hzn := hz (cnt p) (Nat.le_refl _)
  refine ⟨hd.len, fun a n h => ?_, ?_, ?_, ?_, ?_, ?_, ?_⟩
  · rw [hd.head a n h, rhole_win hg hi _ _ (by omega)]
  · rw [hd.low, c1, hc, hzn]
  · rw [hd.cnt, c1, hc]
  · rw [hc]; intro j hj; rw [hd.from_ j (by rw [c1]; exact hj), hz _ (by omega)]
  · rw [hc]; intro j hj; rw [hd.size j (by rw [c1]; exact hj), s1 j hj]
  · rw [hc]; intro j hj
    rw [hd.cell j (by rw [c1]; exact hj)]
    by_cases h : j = i
    · subst h
      have e1 : sSize (holeP p j) j = 0 := by rw [← s1 j hj]; exact s4
      unfold cellP
      rw [s4, e1]
      simp
    · rw [cellP_win, cellP_win, s2 j hj h, s1 j hj]
      have h3 := (hole_good hg hi).cell j (by rw [hc]; exact hj)
      have h4 := (hole_good hg hi).fit
      rw [hc] at h4
      exact rhole_win hg hi _ _ (by omega)
  · have h5 := hd.zero
    rw [c1, hzn] at h5
    rw [hc]
    exact h5

/-- slots moved down: what stands after some -/
def dnP (p : PBytes) (i k : Nat) : PBytes := putAt p (26 + 4 * i) (win p (26 + 4 * (i + 1)) (4 * (k - i)))
theorem dnP_zero (p : PBytes) (i : Nat) : dnP p i i = p := by unfold dnP; rw [Nat.sub_self]; simp [win, putAt]
theorem dnP_len {p : PBytes} (hp : p.length = 512) (i k : Nat) (hk : 26 + 4 * (k + 1) ≤ 512) (hik : i ≤ k) : (dnP p i k).length = 512 := by
  unfold dnP
  have := win_length p (26 + 4 * (i + 1)) (4 * (k - i)) (by omega)
  exact putAt_len _ _ _ hp (by omega)
theorem dnP_slot {p : PBytes} (hp : p.length = 512) (i k : Nat) (hk : 26 + 4 * (k + 2) ≤ 512) (hik : i ≤ k) : sFrom (dnP p i k) (k + 1) = sFrom p (k + 1) ∧ sSize (dnP p i k) (k + 1) = sSize p (k + 1) := by
  have := win_length p (26 + 4 * (i + 1)) (4 * (k - i)) (by omega)
  exact ⟨gt_of_win (win_putAt _ _ _ _ _ (by omega) (by omega)), gt_of_win (win_putAt _ _ _ _ _ (by omega) (by omega))⟩
theorem dnP_step {p : PBytes} (hp : p.length = 512) (i k : Nat) (hk : 26 + 4 * (k + 2) ≤ 512) (hik : i ≤ k) : pt (pt (dnP p i k) (26 + 4 * k) 2 (sFrom p (k + 1))) (26 + 4 * k + 2) 2 (sSize p (k + 1)) = dnP p i (k + 1) := by
  have hw := win_length p (26 + 4 * (i + 1)) (4 * (k - i)) (by omega)
  have hw2 := win_length p (26 + 4 * (k + 1)) 2 (by omega)
  have hw3 := win_length p (26 + 4 * (k + 1) + 2) 2 (by omega)
  unfold sFrom sSize
  rw [pt_gt p _ _ _ _ hp (by omega), pt_gt p _ _ _ _ hp (by omega)]
  have e : win p (26 + 4 * (i + 1)) (4 * (k + 1 - i)) = win p (26 + 4 * (i + 1)) (4 * (k - i)) ++ (win p (26 + 4 * (k + 1)) 2 ++ win p (26 + 4 * (k + 1) + 2) 2) := by
    rw [show 4 * (k + 1 - i) = 4 * (k - i) + (2 + 2) by omega, win_append, win_append, show 26 + 4 * (i + 1) + 4 * (k - i) = 26 + 4 * (k + 1) by omega]
  unfold dnP
  rw [e, putAt_app _ _ _ _ hp (by rw [List.length_append]; omega), hw, show 26 + 4 * i + 4 * (k - i) = 26 + 4 * k by omega, putAt_app _ _ _ _ (putAt_len _ _ _ hp (by omega)) (by omega), hw2]

/-- slots moved up: from the last one -/
theorem upP_zero (p : PBytes) (n : Nat) : upP p n n = p := by unfold upP; rw [Nat.sub_self]; simp [win, putAt]
theorem upP_len {p : PBytes} (hp : p.length = 512) (k n : Nat) (hn : 26 + 4 * (n + 1) ≤ 512) (hk : k ≤ n) : (upP p k n).length = 512 := by
  unfold upP
  have := win_length p (26 + 4 * k) (4 * (n - k)) (by omega)
  exact putAt_len _ _ _ hp (by omega)
theorem upP_slot {p : PBytes} (hp : p.length = 512) (k n : Nat) (hn : 26 + 4 * (n + 1) ≤ 512) (hk : k + 1 ≤ n) : sFrom (upP p (k + 1) n) k = sFrom p k ∧ sSize (upP p (k + 1) n) k = sSize p k := by
  have := win_length p (26 + 4 * (k + 1)) (4 * (n - (k + 1))) (by omega)
  exact ⟨gt_of_win (win_putAt _ _ _ _ _ (by omega) (by omega)), gt_of_win (win_putAt _ _ _ _ _ (by omega) (by omega))⟩
theorem upP_step {p : PBytes} (hp : p.length = 512) (k n : Nat) (hn : 26 + 4 * (n + 1) ≤ 512) (hk : k + 1 ≤ n) : pt (pt (upP p (k + 1) n) (26 + 4 * (k + 1)) 2 (sFrom p k)) (26 + 4 * (k + 1) + 2) 2 (sSize p k) = upP p k n := by
  have hw := win_length p (26 + 4 * (k + 1)) (4 * (n - (k + 1))) (by omega)
  have hw2 := win_length p (26 + 4 * k) 2 (by omega)
  have hw3 := win_length p (26 + 4 * k + 2) 2 (by omega)
  unfold sFrom sSize
  rw [pt_gt p _ _ _ _ hp (by omega), pt_gt p _ _ _ _ hp (by omega)]
  have e : win p (26 + 4 * k) (4 * (n - k)) = (win p (26 + 4 * k) 2 ++ win p (26 + 4 * k + 2) 2) ++ win p (26 + 4 * (k + 1)) (4 * (n - (k + 1))) := by
    rw [show 4 * (n - k) = 2 + (2 + 4 * (n - (k + 1))) by omega, win_append, win_append, show 26 + 4 * k + 2 + 2 = 26 + 4 * (k + 1) by omega, List.append_assoc]
  have hw4 : (win p (26 + 4 * k) 2 ++ win p (26 + 4 * k + 2) 2).length = 4 := by rw [List.length_append]; omega
  have l1 := putAt_len p (26 + 4 * (k + 1)) (win p (26 + 4 * k) 2) hp (by omega)
  unfold upP
  rw [e, putAt_app p _ _ (win p (26 + 4 * (k + 1)) (4 * (n - (k + 1)))) hp (by omega), hw4, putAt_app p _ _ _ hp (by omega), hw2, show 26 + 4 * (k + 1) + 4 = 26 + 4 * (k + 1 + 1) by omega,
    putAt_comm _ _ _ (win p (26 + 4 * k + 2) 2) _ l1 (by omega) (by omega) (by omega), putAt_comm p (26 + 4 * (k + 1)) (26 + 4 * (k + 1 + 1)) _ _ hp (by omega) (by omega) (by omega)]

/-- the reference's Insert -/
def rinsP (p : PBytes) (i : Nat) (c : PBytes) : PBytes :=
  putAt (pt (pt (pt (pt (upP (roomP p (c.length + 4)) i (cnt p)) (26 + 4 * i) 2 (lowP (roomP p (c.length + 4)) - c.length)) (26 + 4 * i + 2) 2 c.length) 14 2 (cnt p + 1)) 16 2 (lowP (roomP p (c.length + 4)) - c.length)) (lowP (roomP p (c.length + 4)) - c.length) c
theorem rins_eq {p : PBytes} (h : GoodP p) {i : Nat} (hi : i ≤ cnt p) {c : PBytes} (hf : (c.length : Int) + 4 ≤ freeP p) : rinsP p i c = insP p i c := by
  have hr := room_ok h (c.length + 4) (by push_cast; exact hf)
  obtain ⟨q, hq⟩ : ∃ q, roomP p (c.length + 4) = q := ⟨_, rfl⟩
  obtain ⟨n, hn⟩ : ∃ n, cnt p = n := ⟨_, rfl⟩
  have hroom := hr.room
  have hlow := hr.low
  have hql := hr.len
  unfold rinsP insP
  rw [hq] at hroom hlow hql ⊢
  rw [hn] at hroom hi ⊢
  have hu := up_facts hql (i := i) (n := n) (m := n + 1) hi (by omega) (by omega)
  have hul := upP_len hql i n (by omega) hi
  unfold belowP
  rw [hu.low]
  obtain ⟨lo, hlo⟩ : ∃ lo, lowP q - c.length = lo := ⟨_, rfl⟩
  rw [hlo]
  unfold ss pt
  have b1 := leBytes_length 2 lo
  have b2 := leBytes_length 2 c.length
  have b3 := leBytes_length 2 (n + 1)
  exact five _ _ _ _ _ _ _ _ _ _ _ hul (by omega) (by omega) (by omega) (by omega) (by omega) (by omega) (by omega) (by omega) (by omega) (by omega) (by omega) (by omega) (by omega) (by omega) (by omega)

/-- the reference's Remove -/
def rremP (p : PBytes) (i : Nat) : PBytes :=
  if cnt p = 1 then pt (pt (pt (dnP p i (cnt p - 1)) (26 + 4 * (cnt p - 1)) 4 0) 14 2 (cnt p - 1)) 16 2 512 else pt (pt (dnP p i (cnt p - 1)) (26 + 4 * (cnt p - 1)) 4 0) 14 2 (cnt p - 1)
theorem le_zero : leBytes 4 0 = zer 4 := by decide
theorem rrem_eq (p : PBytes) (i : Nat) : rremP p i = remP p i := by
  have e : pt (dnP p i (cnt p - 1)) (26 + 4 * (cnt p - 1)) 4 0 = downP p i (cnt p) := by
    unfold downP dnP
    rw [show pt (putAt p (26 + 4 * i) (win p (26 + 4 * (i + 1)) (4 * (cnt p - 1 - i)))) (26 + 4 * (cnt p - 1)) 4 0 = putAt (putAt p (26 + 4 * i) (win p (26 + 4 * (i + 1)) (4 * (cnt p - 1 - i)))) (26 + 4 * (cnt p - 1)) (leBytes 4 0) from rfl, le_zero]
  unfold rremP remP
  rw [e]

/-- the reference's Replace -/
def rrepP (p : PBytes) (i : Nat) (c : PBytes) : PBytes :=
  if c.length ≤ sSize p i then putAt (pt p (26 + 4 * i + 2) 2 c.length) (sFrom p i) c
  else
    let q := if lowP p < 26 + 4 * cnt p + c.length then rcompP (rholeP p i) else rholeP p i
    putAt (pt (pt (pt q 16 2 (lowP q - c.length)) (26 + 4 * i) 2 (lowP q - c.length)) (26 + 4 * i + 2) 2 c.length) (lowP q - c.length) c

theorem rrep_fit {p : PBytes} (h : GoodP p) {i : Nat} (hi : i < cnt p) {c : PBytes} (hc : c.length ≤ sSize p i) : rrepP p i c = repP p i c := by
  have hl := h.len
  have hf := h.fit
  have hlo := h.low
  have hce := h.cell i hi
  unfold rrepP repP
  rw [if_pos hc, if_pos hc]
  have l1 := putAt_len p (sFrom p i) c hl (by omega)
  unfold ss
  have e : pt (putAt p (sFrom p i) c) (26 + 4 * i) 2 (sFrom p i) = putAt p (sFrom p i) c := by
    have e1 : sFrom p i = gt (putAt p (sFrom p i) c) (26 + 4 * i) 2 := (gt_putAt_apart _ _ _ _ _ (by omega) (by omega)).symm
    obtain ⟨f, hff⟩ : ∃ f, sFrom p i = f := ⟨_, rfl⟩
    rw [hff] at e1 l1 hce ⊢
    rw [show pt (putAt p f c) (26 + 4 * i) 2 f = pt (putAt p f c) (26 + 4 * i) 2 (gt (putAt p f c) (26 + 4 * i) 2) by rw [← e1], pt_gt _ _ _ _ _ l1 (by omega), putAt_win _ _ _ l1 (by omega)]
  rw [e]
  unfold pt
  have b2 := leBytes_length 2 c.length
  exact putAt_comm _ _ _ _ _ hl (by omega) (by omega) (by omega)

theorem rrep_grow {p : PBytes} (h : GoodP p) {i : Nat} (hi : i < cnt p) {c : PBytes} (hc : ¬ c.length ≤ sSize p i) (hf : (c.length : Int) - sSize p i ≤ freeP p) : rrepP p i c = repP p i c := by
  have hl := h.len
  have hfi := h.fit
  have hlo := h.low
  have hh := hole_good h hi
  have hcn : cnt (holeP p i) = cnt p := cnt_ss _ _ _ _ (by omega)
  have hlw : lowP (holeP p i) = lowP p := lowP_ss _ _ _ _ (by omega)
  have hfr := freeP_hole h hi
  have hr := room_ok hh c.length (by omega)
  have hroom := hr.room
  have hlow := hr.low
  have hql := hr.len
  rw [hcn] at hroom
  unfold rrepP repP
  rw [if_neg hc, if_neg hc]
  have b2 := leBytes_length 2 c.length
  by_cases hcond : lowP p < 26 + 4 * cnt p + c.length
  · have e1 : roomP (holeP p i) c.length = anewP (holeP p i) := by unfold roomP; rw [hcn, hlw, if_pos hcond]
    simp only [if_pos hcond]
    rw [rhole_anew h hi, e1]
    rw [e1] at hroom hlow hql
    obtain ⟨q, hq⟩ : ∃ q, anewP (holeP p i) = q := ⟨_, rfl⟩
    rw [hq] at hroom hlow hql ⊢
    unfold belowP
    obtain ⟨lo, hlo⟩ : ∃ lo, lowP q - c.length = lo := ⟨_, rfl⟩
    rw [hlo]
    unfold ss pt
    have b1 := leBytes_length 2 lo
    have l1 := putAt_len q 16 (leBytes 2 lo) hql (by omega)
    have l2 := putAt_len _ (26 + 4 * i) (leBytes 2 lo) l1 (by omega)
    rw [putAt_comm _ _ lo _ c l2 (by omega) (by omega) (by omega), putAt_comm _ (26 + 4 * i) lo _ c l1 (by omega) (by omega) (by omega), putAt_comm _ 16 lo _ c hql (by omega) (by omega) (by omega)]
  · have e1 : roomP (holeP p i) c.length = holeP p i := by unfold roomP; rw [hcn, hlw, if_neg hcond]
    simp only [if_neg hcond]
    rw [e1]
    rw [e1, hlw] at hroom hlow
    obtain ⟨ho, c1, c2⟩ := rhole_ok h hi
    unfold belowP
    rw [c2, hlw]
    obtain ⟨lo, hlo⟩ : ∃ lo, lowP p - c.length = lo := ⟨_, rfl⟩
    rw [hlo]
    have b1 := leBytes_length 2 lo
    have l0 := ho.len
    have l1 := putAt_len (rholeP p i) 16 (leBytes 2 lo) l0 (by omega)
    have l2 := putAt_len _ (26 + 4 * i) (leBytes 2 lo) l1 (by omega)
    have lh := hh.len
    have m1 := putAt_len _ lo c lh (by omega)
    have m2 := putAt_len _ 16 (leBytes 2 lo) m1 (by omega)
    have r1 := putAt_len _ lo c l0 (by omega)
    have r2 := putAt_len _ 16 (leBytes 2 lo) r1 (by omega)
    have r3 := putAt_len _ (26 + 4 * i) (leBytes 2 lo) r2 (by omega)
    have m3 := putAt_len _ (26 + 4 * i) (leBytes 2 lo) m2 (by omega)
    unfold ss pt
    rw [putAt_comm _ _ lo _ c l2 (by omega) (by omega) (by omega), putAt_comm _ (26 + 4 * i) lo _ c l1 (by omega) (by omega) (by omega), putAt_comm _ 16 lo _ c l0 (by omega) (by omega) (by omega)]
    have key : ∀ j, ¬ (26 + 4 * i ≤ j ∧ j < 26 + 4 * i + 4) → (rholeP p i)[j]? = (holeP p i)[j]? := by
      intro j hj
      rw [win_get (rholeP p i), win_get (holeP p i), rhole_win h hi _ _ (by omega)]
    apply List.ext_getElem?
    intro j
    rw [putAt_get _ _ _ r3 (by omega), putAt_get _ _ _ r2 (by omega), putAt_get _ _ _ r1 (by omega), putAt_get _ _ _ l0 (by omega), putAt_get _ _ _ m3 (by omega), putAt_get _ _ _ m2 (by omega), putAt_get _ _ _ m1 (by omega), putAt_get _ _ _ lh (by omega), b1, b2]
    by_cases k1 : 26 + 4 * i + 2 ≤ j ∧ j < 26 + 4 * i + 2 + 2
    · rw [if_pos k1, if_pos k1]
    · rw [if_neg k1, if_neg k1]
      by_cases k2 : 26 + 4 * i ≤ j ∧ j < 26 + 4 * i + 2
      · rw [if_pos k2, if_pos k2]
      · rw [if_neg k2, if_neg k2, key j (by omega)]
end Mun
end

section
/- What calls tell is new memory: uniform contracts; rows of rows of the call's own. -/
set_option maxRecDepth 100000
set_option linter.unusedVariables false
set_option linter.unusedSimpArgs false
namespace Mun
open Go Go.RowKit
open Go.Proofs

/-- bytes in new memory, or nil, and a number -/
def Kept1 (w : World) (e : Ending) (w' : World) : Prop := ∃ v k L, e = .returned (.tuple #[v, .int .i64 k]) ∧ OwnB w' w.heap.size 5 v L ∧ Below w.heap.size w w' ∧ L.length ≤ 512

theorem own_block {w : World} {B g : Nat} {c : PBytes} (h : w.heap[g]? = some (bobj c)) (n : Nat) (hn : c.length = n) (hm : n ≤ maxLen) (hB : B ≤ g) : OwnB w B 5 (.slice (some ⟨g, 0, none⟩) n n) c := by
  subst hn
  refine ⟨by simp [bv], .inr ⟨g, c.length, _, rfl, hB, h, Nat.le_refl _, hm, by simp [bv], ?_⟩⟩
  rw [List.take_of_length_le (by simp [bv])]
theorem PageOut.kept {w w' : World} {p : PBytes} {e : Ending} (h : PageOut w p e w') : Kept1 w e w' := by
  obtain ⟨g, rfl, hp, hg, hb⟩ := h
  exact ⟨_, 0, p, rfl, own_block hp.1 512 hp.2 (by decide) hg, hb, by rw [hp.2]; exact Nat.le_refl _⟩
theorem PageNo.kept {w w' : World} {k : Int} {e : Ending} (h : PageNo w k e w') : Kept1 w e w' := by
  obtain ⟨rfl, hb⟩ := h
  exact ⟨_, k, [], rfl, OwnB.nil _ _ _, hb, by simp⟩
theorem BytesOut.kept {w w' : World} {c : PBytes} {e : Ending} (h : BytesOut w c e w') (hm : c.length ≤ 512) : Kept1 w e w' := by
  obtain ⟨g, rfl, hp, hg, hb⟩ := h
  exact ⟨_, 0, c, rfl, own_block hp _ rfl (by unfold maxLen; omega) hg, hb, hm⟩

section
variable {F : Foot} (w : World) (v u : Value) (p c : List UInt8) (i : Int)
theorem seal_kept (l : Nat) (hv : RdB F w v p) : Calls Tryz.prog 59 #[v, .int .u64 l] w (Kept1 w) := by
  by_cases hg : GoodP p
  · exact (seal_yes w v p l hv hg).mono fun _ _ h => h.kept
  · exact (seal_no w v p l hv hg).mono fun _ _ h => PageNo.kept h
end

/-- values of the call's own, apart -/
structure OwnL (B : Nat) (w0 wr : World) (vs : List Value) (Ls : List PBytes) : Prop where
  bl : Below B w0 wr
  len : Ls.length = vs.length
  own : ∀ (i : Nat) (v : Value), vs[i]? = some v → ∃ L, Ls[i]? = some L ∧ OwnB wr B 5 v L
  apart : ∀ (i j : Nat) (v u : Value), vs[i]? = some v → vs[j]? = some u → i ≠ j → ∀ k, v.ownBlock = some k → u.ownBlock ≠ some k

theorem OwnL.nil {B : Nat} {w0 wr : World} (h : Below B w0 wr) : OwnL B w0 wr [] [] := ⟨h, rfl, fun i v h => by simp at h, fun i j v u h => by simp at h⟩
theorem OwnL.below {B : Nat} {w0 wr w' : World} {vs : List Value} {Ls : List PBytes} (h : OwnL B w0 wr vs Ls) (hB : B ≤ wr.heap.size) (hb : Below wr.heap.size wr w') : OwnL B w0 w' vs Ls :=
  ⟨h.bl.trans (hb.mono hB), h.len, fun i v hv => by obtain ⟨L, h1, h2⟩ := h.own i v hv; exact ⟨L, h1, h2.below hb⟩, h.apart⟩
theorem OwnB.lower {w : World} {B B' : Nat} {v : Value} {L : PBytes} (h : OwnB w B 5 v L) (hB : B' ≤ B) : OwnB w B' 5 v L := ownsRow_base h (fun k hk => Nat.le_trans hB (h.lt k hk).1)

theorem getElem?_append_cases {α : Type} {l1 l2 : List α} {i : Nat} {x : α} (h : (l1 ++ l2)[i]? = some x) : (i < l1.length ∧ l1[i]? = some x) ∨ (l1.length ≤ i ∧ l2[i - l1.length]? = some x) := by
  rcases Nat.lt_or_ge i l1.length with hl | hl
  · rw [List.getElem?_append_left hl] at h; exact .inl ⟨hl, h⟩
  · rw [List.getElem?_append_right hl] at h; exact .inr ⟨hl, h⟩

/-- two of them, the blocks of the latter newer -/
theorem OwnL.app {B : Nat} {w0 w1 wr : World} {vs us : List Value} {Ls Us : List PBytes} (h : OwnL B w0 wr vs Ls) (k : OwnL w1.heap.size w1 wr us Us) (hB : B ≤ w1.heap.size) (hold : ∀ (i : Nat) (v : Value), vs[i]? = some v → ∀ j, v.ownBlock = some j → j < w1.heap.size) : OwnL B w0 wr (us ++ vs) (Us ++ Ls) := by
  refine ⟨h.bl, by simp [h.len, k.len], fun i v hv => ?_, fun i j v u hv hu hij b hb hb2 => ?_⟩
  · rcases getElem?_append_cases hv with ⟨h1, h2⟩ | ⟨h1, h2⟩
    · obtain ⟨L, h3, h4⟩ := k.own i v h2
      exact ⟨L, by rw [List.getElem?_append_left (by rw [k.len]; exact h1)]; exact h3, h4.lower hB⟩
    · obtain ⟨L, h3, h4⟩ := h.own _ v h2
      exact ⟨L, by rw [List.getElem?_append_right (by rw [k.len]; exact h1), k.len]; exact h3, h4⟩
  · rcases getElem?_append_cases hv with ⟨h1, h2⟩ | ⟨h1, h2⟩ <;> rcases getElem?_append_cases hu with ⟨h3, h4⟩ | ⟨h3, h4⟩
    · exact k.apart i j v u h2 h4 hij b hb hb2
    · obtain ⟨L, _, h6⟩ := k.own i v h2
      have := (h6.lt b hb).1
      have := hold _ u h4 b hb2
      omega
    · obtain ⟨L, _, h6⟩ := k.own j u h4
      have := (h6.lt b hb2).1
      have := hold _ v h2 b hb
      omega
    · exact h.apart _ _ v u h2 h4 (by omega) b hb hb2

theorem OwnL.lt {B : Nat} {w0 wr : World} {vs : List Value} {Ls : List PBytes} (h : OwnL B w0 wr vs Ls) (i : Nat) (v : Value) (hv : vs[i]? = some v) (j : Nat) (hj : v.ownBlock = some j) : B ≤ j ∧ j < wr.heap.size := by
  obtain ⟨L, _, h2⟩ := h.own i v hv
  exact h2.lt j hj

/-- one more -/
theorem OwnL.snoc {B : Nat} {w0 w w' : World} {vs : List Value} {Ls : List PBytes} {v : Value} {L : PBytes} (h : OwnL B w0 w vs Ls) (hB : B ≤ w.heap.size) (ho : OwnB w' w.heap.size 5 v L) (hb : Below w.heap.size w w') : OwnL B w0 w' (vs ++ [v]) (Ls ++ [L]) := by
  have h' := h.below hB hb
  refine ⟨h'.bl, by simp [h.len], fun i x hx => ?_, fun i j x y hx hy hij b hb1 hb2 => ?_⟩
  · rcases getElem?_append_cases hx with ⟨h1, h2⟩ | ⟨h1, h2⟩
    · obtain ⟨M, h3, h4⟩ := h'.own i x h2
      exact ⟨M, by rw [List.getElem?_append_left (by rw [h.len]; exact h1)]; exact h3, h4⟩
    · have hi0 : i - vs.length = 0 := by
        rcases Nat.eq_zero_or_pos (i - vs.length) with h0 | h0
        · exact h0
        · rw [List.getElem?_eq_none (by simp; omega)] at h2; cases h2
      rw [hi0] at h2
      simp only [List.getElem?_cons_zero, Option.some.injEq] at h2
      subst h2
      exact ⟨L, by rw [List.getElem?_append_right (by rw [h.len]; exact h1), h.len, hi0]; rfl, ho.lower hB⟩
  · have hlast : ∀ k (z : Value), vs.length ≤ k → [v][k - vs.length]? = some z → k = vs.length ∧ z = v := by
      intro k z h1 h2
      have hi0 : k - vs.length = 0 := by
        rcases Nat.eq_zero_or_pos (k - vs.length) with h0 | h0
        · exact h0
        · rw [List.getElem?_eq_none (by simp; omega)] at h2; cases h2
      rw [hi0] at h2
      simp only [List.getElem?_cons_zero, Option.some.injEq] at h2
      exact ⟨by omega, h2.symm⟩
    rcases getElem?_append_cases hx with ⟨h1, h2⟩ | ⟨h1, h2⟩ <;> rcases getElem?_append_cases hy with ⟨h3, h4⟩ | ⟨h3, h4⟩
    · exact h.apart i j x y h2 h4 hij b hb1 hb2
    · obtain ⟨_, rfl⟩ := hlast j y h3 h4
      have := (h.lt i x h2 b hb1).2
      have := (ho.lt b hb2).1
      omega
    · obtain ⟨_, rfl⟩ := hlast i x h1 h2
      have := (h.lt j y h4 b hb2).2
      have := (ho.lt b hb1).1
      omega
    · obtain ⟨e1, _⟩ := hlast i x h1 h2
      obtain ⟨e2, _⟩ := hlast j y h3 h4
      omega

/-- a row of new rows, or nil -/
def KeptL (w : World) (e : Ending) (w' : World) : Prop := ∃ u k us Us, e = .returned (.tuple #[u, .int .i64 k]) ∧ OwnV w' w.heap.size u us ∧ OwnL w.heap.size w w' us Us ∧ us.length ≤ 121 ∧ ∀ L ∈ Us, L.length ≤ 512

end Mun
end

section
/- Contracts of munimentref5: New, Check. -/
set_option maxRecDepth 100000
set_option linter.unusedVariables false
set_option linter.unusedSimpArgs false
namespace Mun
open Go Go.RowKit
open Go.Proofs

/-- all noughts so far -/
def zk (p : PBytes) (k : Nat) : Bool := decide (p.length = 512) && (p.take k).all (· == 0)
theorem zk_zero (p : PBytes) : zk p 0 = decide (p.length = 512) := by simp [zk]
theorem zk_succ (p : PBytes) (k : Nat) (hk : k < p.length) : zk p (k + 1) = (zk p k && (p[k] == 0)) := by
  unfold zk
  rw [take_snoc p k hk, List.all_append, List.all_cons, List.all_nil, Bool.and_true, Bool.and_assoc]
theorem zk_all (p : PBytes) : zk p p.length = decide (p = zer 512) := by
  unfold zk
  rw [List.take_length]
  by_cases h : p = zer 512
  · subst h
    rfl
  · rw [decide_eq_false h]
    by_cases hl : p.length = 512
    · rw [decide_eq_true hl, Bool.true_and]
      by_cases ha : p.all (· == 0) = true
      · exfalso
        apply h
        unfold zer
        rw [List.eq_replicate_iff]
        refine ⟨hl, fun b hb => ?_⟩
        rw [List.all_eq_true] at ha
        simpa using ha b hb
      · simpa using ha
    · rw [decide_eq_false hl, Bool.false_and]

set_option maxHeartbeats 1000000 in
theorem r5check {F : Foot} (w : World) (v : Value) (p : List UInt8) (hv : RdB F w v p) : Calls Tryz.prog 27 #[v] w fun e w' => e = .returned (.int .i64 (checkP p)) ∧ Below w.heap.size w w' := by
  have HV := Lib.hid hv
  have hcell : ∀ k, k < p.length → ∃ g off c z, v = .slice (some ⟨g, off, none⟩) p.length c ∧ w.cell? ⟨g, off + k, none⟩ = some (.int .u8 ((z : Nat) : Int)) ∧ (z = 0 ↔ p[k]? = some 0) := by
    intro k hk
    obtain ⟨g, off, c, rfl, -, -, -, -, hcells⟩ := hv.at_ (by omega)
    have h1 := hcells k hk
    refine ⟨g, off, c, p[k].toNat, rfl, h1, ?_⟩
    rw [List.getElem?_eq_getElem hk]
    constructor
    · intro h; congr 1; exact UInt8.toNat_inj.1 h
    · intro h; injection h with h; rw [h]; rfl
  have HC := Lib.hid hcell
  obtain ⟨a, n, c, rfl, HN, hlc, hcm⟩ := hv.formN
  have hnm : (n : Int) ≤ 9223372036854775807 := by unfold maxLen at hcm; omega
  have htest : ((n : Int) == 512) = zk p 0 := by
    rw [zk_zero, ← HN.out]
    by_cases h : n = 512
    · subst h; rfl
    · rw [decide_eq_false h]; simp; omega
  obtain ⟨b0, hb0⟩ : ∃ b, zk p 0 = b := ⟨_, rfl⟩
  rw [hb0] at htest
  have HB0 := Lib.hid hb0
  clear hv hcell hcm hlc hb0
  go_enter Tryz.func27, Tryz.ntmps27
  go_wp2
  go_loop [3, 4] (fun z i => ∃ k : Nat, k ≤ n ∧ i = .int .i64 (k : Int) ∧ z = .bool (zk p k)) (fun _ i => n - (intOf i).toNat)
  case atStart => exact ⟨0, by omega, rfl, by rw [HB0.out]⟩
  case round =>
    obtain ⟨k, hk, rfl, rfl⟩ := hrel
    rcases Nat.lt_or_eq_of_le hk with hlt | heq
    · have hkp : k < p.length := by rw [← HN.out]; exact hlt
      obtain ⟨g, off, c2, z, e, hz1, hz2⟩ := HC.out k hkp
      injection e with e1 _ e3
      subst e1 e3
      have hs := zk_succ p k hkp
      have hpz : (p[k] == 0) = decide (z = 0) := by
        rw [List.getElem?_eq_getElem hkp] at hz2
        by_cases h : z = 0
        · have := hz2.1 h
          injection this with this
          rw [this, decide_eq_true h]; rfl
        · rw [decide_eq_false h]
          have : ¬ p[k] = 0 := fun h2 => h (hz2.2 (by rw [h2]))
          simpa using this
      rw [hpz] at hs
      obtain ⟨b, hb⟩ : ∃ b, zk p k = b := ⟨_, rfl⟩
      rw [hb] at hs ⊢
      have HS := Lib.hid (And.intro hs hlt)
      have hki : (k : Int) < (n : Int) := by omega
      have hk0 : (0 : Int) ≤ (k : Int) := by omega
      clear hkp hz2 hs hpz hb hlt hk
      cases b with
      | true =>
        by_cases h0 : z = 0
        · subst h0
          have t0 : (((0 : Nat) : Int) == 0) = true := rfl
          go_wp2
          go_round
          case rel => exact ⟨k + 1, by have := HS.out.2; omega, by go_num, by rw [HS.out.1]; rfl⟩
          case measure => have := HS.out.2; simp [intOf]; omega
        · have t0 : ((z : Int) == 0) = false := by simpa using h0
          have HF : Hid (decide (z = 0) = false) := by show _ = _; exact decide_eq_false h0
          clear h0
          go_wp2
          go_round
          case rel => exact ⟨k + 1, by have := HS.out.2; omega, by go_num, by rw [HS.out.1, HF.out]; rfl⟩
          case measure => have := HS.out.2; simp [intOf]; omega
      | false =>
        go_wp2
        go_round
        case rel => exact ⟨k + 1, by have := HS.out.2; omega, by go_num, by rw [HS.out.1]; rfl⟩
        case measure => have := HS.out.2; simp [intOf]; omega
    · subst heq
      have hza := zk_all p
      rw [← HN.out] at hza
      rw [hza]
      clear hza hk
      by_cases hz : p = zer 512
      · have HR : Hid (checkP p = 0) := by show _ = _; unfold checkP; rw [if_pos hz]
        rw [decide_eq_true hz]
        clear hz
        go_wp2
        go_ret
        exact ⟨by rw [HR.out]; rfl, Below.refl _ _⟩
      · rw [decide_eq_false hz]
        have hgd := r5good w _ p HV.out
        by_cases hg : GoodP p
        · rw [goodB_true hg] at hgd
          have HP : Hid (p.length = 512) := hg.len
          have HCK : Hid (checkP p = if gt p 0 4 ≠ (crcOf (p.drop 4)).toNat then 8 else 0) := by show _ = _; unfold checkP; rw [if_neg hz, if_neg (by simpa using hg)]
          have HGD := Lib.hid hgd
          have hn512 : k = 512 := by rw [HN.out]; exact hg.len
          subst hn512
          clear hz hgd hg
          go_wp2_with fail
          refine HGD.out.mono ?_
          rintro e w2 ⟨rfl, hb2⟩
          have hv2 := RdB.below HV.out hb2
          obtain ⟨a4, c4, hsl, hr4⟩ := slice_rest hv2 4 4 rfl (by decide) HP.out.symm
          have hgt := fun j => r5get (w2.drewN j) _ p 0 4 0 4 rfl rfl (hv2.drewN j) (by rw [HP.out]; decide) (by decide)
          have hof := fun j => refof_any (w2.drewN j) _ (p.drop 4) (hr4.drewN j)
          obtain ⟨x, hx⟩ : ∃ x, gt p 0 4 = x := ⟨_, rfl⟩
          have hxb : x < 4294967296 := by rw [← hx]; exact gt4_lt p 0
          have hsb := (crcOf (p.drop 4)).isLt
          obtain ⟨s, hs⟩ : ∃ s, (crcOf (p.drop 4)).toNat = s := ⟨_, rfl⟩
          rw [hs] at hsb hof HCK
          rw [hx] at hgt HCK
          have HGT := Lib.hid hgt
          have HOF := Lib.hid hof
          have HB2 := Lib.hid hb2
          have hxi : (x : Int) < 4294967296 := by omega
          have hx0 : (0 : Int) ≤ (x : Int) := by omega
          have hsi : (s : Int) < 4294967296 := by omega
          clear hv2 hr4 hgt hof hx hs hb2 HGD hxb hsb
          by_cases hxs : x = s
          · have t1 : ((x : Int) != (s : Int)) = false := by simp [hxs]
            have HR : Hid (checkP p = 0) := by show _ = _; rw [HCK.out, if_neg (by simp [hxs])]
            clear hxs
            go_wp2
            go_quiet ((first | (go_at_call 66; exact quiet_eq (HGT.out _)) | (go_at_call 62; exact quiet_eq (HOF.out _))))
            go_wp2
            go_ret
            exact ⟨by rw [HR.out]; rfl, below_drewN HB2.out _⟩
          · have t1 : ((x : Int) != (s : Int)) = true := by
              have h3 : ¬ ((x : Int) = (s : Int)) := by omega
              simpa using h3
            have HR : Hid (checkP p = 8) := by show _ = _; rw [HCK.out, if_pos hxs]
            clear hxs
            go_wp2
            go_quiet ((first | (go_at_call 66; exact quiet_eq (HGT.out _)) | (go_at_call 62; exact quiet_eq (HOF.out _))))
            go_wp2
            go_ret
            exact ⟨by rw [HR.out]; rfl, below_drewN HB2.out _⟩
        · rw [goodB_false hg] at hgd
          have HR : Hid (checkP p = 4) := by show _ = _; unfold checkP; rw [if_neg hz, if_pos hg]
          have HGD := Lib.hid hgd
          clear hz hgd hg
          go_wp2_with fail
          refine HGD.out.mono ?_
          rintro e w2 ⟨rfl, hb2⟩
          have HB2 := Lib.hid hb2
          clear hb2
          go_wp2
          go_ret
          exact ⟨by rw [HR.out]; rfl, HB2.out⟩
end Mun
end
