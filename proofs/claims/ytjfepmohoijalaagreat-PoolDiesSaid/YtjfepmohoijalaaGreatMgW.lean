/- Texts of mine, one behind the other: R5A, R5B, R5C, R5P, KeptPA, R5D. -/
import Derived.Test.YtjfepmohoijalaaGreatMgT
import Derived.Test.YtjfepmohoijalaaGreatMgV
import Derived.Test.YtjfepmohoijalaaGreatMgE
import Derived.Test.YtjfepmohoijalaaGreatMgU
import Derived.Test.YtjfepmohoijalaaGreatMgF
import Derived.Test.YtjfepmohoijalaaGreatP11
section
/- Contracts of munimentref5: get, put, Count, slot, Copy, Free. -/
set_option maxRecDepth 100000
set_option linter.unusedVariables false
set_option linter.unusedSimpArgs false
namespace Mun
open Go Go.RowKit
open Go.Proofs

theorem r5get {F : Foot} (w : World) (v : Value) (p : List UInt8) (a k : Int) (A K : Nat) (hA : a = A) (hK : k = K) (hv : RdB F w v p) (h : A + K ≤ p.length) (h4 : K ≤ 4) :
    Calls Tryz.prog 66 #[v, .int .i64 a, .int .i64 k] w fun e w' => e = .returned (.int .i64 (gt p A K)) ∧ w = w' := by
  have hb : gt p A K < 4294967296 := Nat.lt_of_lt_of_le (gt_lt p A K) (Nat.pow_le_pow_right (n := 256) (by decide) h4)
  have hg := refget_any w _ p a k A K (gt p A K : Int) hA hK rfl hv h (by omega)
  obtain ⟨a1, n, c, rfl, -, -, -⟩ := hv.formN
  obtain ⟨z, hz⟩ : ∃ z, gt p A K = z := ⟨_, rfl⟩
  rw [hz] at hg hb ⊢
  have HG := Lib.hid hg
  clear hg hz hv hA hK
  go_enter Tryz.func66, Tryz.ntmps66
  go_wp2_with fail
  refine HG.out.mono ?_
  rintro e w2 ⟨rfl, rfl⟩
  go_wp2
  go_ret
  exact ⟨rfl, rfl⟩

theorem r5count {F : Foot} (w : World) (v : Value) (p : List UInt8) (hv : RdB F w v p) (hp : 16 ≤ p.length) : Calls Tryz.prog 55 #[v] w fun e w' => e = .returned (.int .i64 (cnt p)) ∧ w = w' := by
  have hg := r5get w v p 14 2 14 2 rfl rfl hv (by omega) (by decide)
  obtain ⟨a1, n, c, rfl, -, -, -⟩ := hv.formN
  have HG := Lib.hid hg
  clear hg hv hp
  go_enter Tryz.func55, Tryz.ntmps55
  go_wp2_with fail
  refine HG.out.mono ?_
  rintro e w2 ⟨rfl, rfl⟩
  go_wp2
  go_ret
  exact ⟨rfl, rfl⟩

theorem r5slot {F : Foot} (w : World) (v : Value) (p : List UInt8) (i : Nat) (hv : RdB F w v p) (hp : 26 + 4 * i + 4 ≤ p.length) (hl : p.length ≤ 100000) :
    Calls Tryz.prog 57 #[v, .int .i64 i] w fun e w' => e = .returned (.tuple #[.int .i64 (sFrom p i), .int .i64 (sSize p i)]) ∧ w = w' := by
  have hg := r5get w v p (26 + 4 * (i : Int)) 2 (26 + 4 * i) 2 (by push_cast; rfl) rfl hv (by omega) (by decide)
  have hg2 := r5get w v p (28 + 4 * (i : Int)) 2 (26 + 4 * i + 2) 2 (by push_cast; omega) rfl hv (by omega) (by decide)
  obtain ⟨a1, n, c, rfl, -, -, -⟩ := hv.formN
  have HG := Lib.hid hg
  have HG2 := Lib.hid hg2
  have hi : (i : Int) ≤ 100000 := by omega
  clear hg hg2 hv hp hl
  go_enter Tryz.func57, Tryz.ntmps57
  go_wp2_with fail
  refine HG.out.mono ?_
  rintro e w2 ⟨rfl, rfl⟩
  go_wp2_with fail
  refine HG2.out.mono ?_
  rintro e w2 ⟨rfl, rfl⟩
  go_wp2
  go_ret2
  exact ⟨rfl, rfl⟩

/-- a step of laying bytes in -/
theorem putAt_zero (p : PBytes) (A : Nat) : putAt p A [] = p := by simp [putAt]
theorem putAt_step (p bs : PBytes) (A k : Nat) (hk : k < bs.length) (hA : A + bs.length ≤ p.length) : (putAt p A (bs.take k)).set (A + k) bs[k] = putAt p A (bs.take (k + 1)) := by
  have e1 : A + (bs.take k).length ≤ p.length := by rw [List.length_take]; omega
  have e2 : A + (bs.take (k + 1)).length ≤ p.length := by rw [List.length_take]; omega
  apply List.ext_getElem?
  intro j
  rw [putAt_getElem? _ _ _ e2]
  by_cases hj : j = A + k
  · subst hj
    rw [List.getElem?_set_self (by rw [putAt_length _ _ _ e1]; omega), if_pos (by rw [List.length_take]; omega), List.getElem?_take, if_pos (by omega), List.getElem?_eq_getElem (by omega)]
    congr 2
    omega
  · rw [List.getElem?_set_ne (Ne.symm hj), putAt_getElem? _ _ _ e1]
    by_cases h1 : A ≤ j ∧ j < A + k
    · rw [if_pos (by rw [List.length_take]; omega), if_pos (by rw [List.length_take]; omega), List.getElem?_take, if_pos (by omega), List.getElem?_take, if_pos (by omega)]
    · rw [if_neg (by rw [List.length_take]; omega), if_neg (by rw [List.length_take]; omega)]

/-- a page of the call's own that may be written -/
structure Pw (B : Nat) (wr : World) (g m cap : Nat) (p : PBytes) : Prop where
  own : OwnB wr B 5 (.slice (some ⟨g, 0, none⟩) m cap) p
  len : m = p.length
  pos : 0 < m

theorem Pw.rd {F : Foot} {B : Nat} {wr : World} {g m cap : Nat} {p : PBytes} (h : Pw B wr g m cap p) (hF : ¬ F g) : RdB F wr (.slice (some ⟨g, 0, none⟩) m cap) p :=
  RdV.of_own' h.own (fun k hk => by simp only [Value.ownBlock, Option.some.injEq] at hk; subst hk; exact hF)
theorem Pw.lt {B : Nat} {wr : World} {g m cap : Nat} {p : PBytes} (h : Pw B wr g m cap p) : B ≤ g ∧ g < wr.heap.size := h.own.lt g rfl
theorem Pw.set {B : Nat} {wr : World} {g m cap : Nat} {p : PBytes} (h : Pw B wr g m cap p) (i : Nat) (hi : i < m) (b : UInt8) (x : Int) (hx : x = b.toNat) : Pw B (wr.setCell ⟨g, i, none⟩ (.int .u8 x)) g m cap (p.set i b) :=
  ⟨h.own.set rfl (by rw [← h.len]; exact hi) b x hx, by rw [List.length_set]; exact h.len, h.pos⟩
theorem Pw.below {B : Nat} {wr w' : World} {g m cap : Nat} {p : PBytes} (h : Pw B wr g m cap p) (hb : Below wr.heap.size wr w') : Pw B w' g m cap p := ⟨h.own.below hb, h.len, h.pos⟩
theorem chg_set (w : World) (g i : Nat) (v : Value) : Chg (G1 g) (G1 g) w (w.setCell ⟨g, i, none⟩ v) := by
  refine ⟨rfl, rfl, rfl, by simp, fun k _ hk => ?_, fun k hk => .inl hk⟩
  have hk' : g ≠ k := fun e => hk e.symm
  simp [World.setCell, Array.getElem?_modify, hk']

set_option maxHeartbeats 1000000 in
theorem r5put (w : World) (B g m cap : Nat) (p : List UInt8) (a k : Int) (A K n : Nat) (hA : a = A) (hK : k = K) (hg : Pw B w g m cap p) (h : A + K ≤ m) (hn : n < 18446744073709551616) (hm : m ≤ 100000) (hK8 : K ≤ 8) :
    Calls Tryz.prog 61 #[.slice (some ⟨g, 0, none⟩) m cap, .int .i64 a, .int .i64 k, .int .u64 n] w fun e w' => e = .returned (.tuple #[]) ∧ Pw B w' g m cap (pt p A K n) ∧ Chg (G1 g) (G1 g) w w' := by
  subst hA hK
  have hput := refput_any w n (K : Int) K rfl hn hK8
  have HPT := Lib.hid hput
  have HG := Lib.hid (And.intro hg hK8)
  have hAi : (A : Int) ≤ 100000 := by omega
  have hKi : (K : Int) ≤ 8 := by omega
  clear hput hg hn hK8
  go_enter Tryz.func61, Tryz.ntmps61
  go_wp2_with fail
  refine HPT.out.mono ?_
  rintro e w1 ⟨v1, rfl, ho1, hb1⟩
  have hbl := leBytes_length K n
  obtain ⟨bs, hbs⟩ : ∃ bs, leBytes K n = bs := ⟨_, rfl⟩
  rw [hbs] at ho1 hbl
  obtain ⟨ba, bn, bc, rfl, HBN, -, -⟩ := (OwnB.rd (F := NoF) ho1 (fun _ _ => noF _)).formN
  obtain rfl : bn = K := by rw [HBN.out]; exact hbl
  have hgw := HG.out.1.lt.2
  have HO := Lib.hid (And.intro ho1 (And.intro hb1 (And.intro hbl (And.intro hgw hbs))))
  have HG1 := Lib.hid (HG.out.1.below hb1)
  clear ho1 hb1 hbl hgw hbs HPT
  go_wp2
  go_loopw [9] (fun i wr => ∃ q : Nat, q ≤ bn ∧ i = .int .i64 (q : Int) ∧ Pw B wr g m cap (putAt p A (bs.take q)) ∧ Chg (G1 g) (G1 g) w1 wr) (fun i _ => bn - (intOf i).toNat)
  case atStart => exact ⟨0, by omega, rfl, by rw [List.take_zero, putAt_zero]; exact HG1.out, Chg.refl _ _⟩
  case round =>
    obtain ⟨q, hq, rfl, hP, hC⟩ := hrel
    rcases Nat.lt_or_eq_of_le hq with hlt | heq
    · have hor : OwnB wr w.heap.size 5 (.slice ba bn bc) bs := HO.out.1.chg hC (fun k hk hF => by
        have h1 := (HO.out.1.lt k hk).1
        have h2 := HO.out.2.2.2.1
        have h3 : k = g := hF
        omega)
      obtain ⟨bg, bc2, e, -, -, -, -, hcell, -⟩ := hor.at_ (by rw [HO.out.2.2.1]; omega)
      injection e with e1 e2 e3
      subst e1 e3
      clear e2
      have hc1 := hcell q (by rw [HO.out.2.2.1]; exact hlt)
      have hql : q < bs.length := by rw [HO.out.2.2.1]; exact hlt
      have hpl : A + bs.length ≤ p.length := by rw [HO.out.2.2.1, ← HG.out.1.len]; exact h
      have hst := putAt_step p bs A q hql hpl
      have hPs := hP.set (A + q) (by omega) bs[q] (bs[q].toNat : Int) rfl
      rw [hst] at hPs
      obtain ⟨x, hx⟩ : ∃ x : Int, ((bs[q]'hql).toNat : Int) = x := ⟨_, rfl⟩
      rw [hx] at hc1 hPs
      obtain ⟨ag, ac, e9, -, -, -, -, hcl, hfr⟩ := hP.own.at_ (by rw [← hP.len]; exact hP.pos)
      injection e9 with e10 _ e11
      injection e10 with e10
      injection e10 with e10 _ _
      subst e10 e11
      have hc2 := hcl (A + q) (by rw [← hP.len]; omega)
      have hf2 := hfr (A + q)
      obtain ⟨y, hy⟩ : ∃ y : Int, (((putAt p A (bs.take q))[A + q]'(by rw [← hP.len]; omega)).toNat : Int) = y := ⟨_, rfl⟩
      rw [hy] at hc2
      have hN : Hid (Pw B (wr.setCell ⟨g, A + q, none⟩ (.int .u8 x)) g m cap (putAt p A (bs.take (q + 1))) ∧ Chg (G1 g) (G1 g) w1 (wr.setCell ⟨g, A + q, none⟩ (.int .u8 x)) ∧ q < bn) := ⟨hPs, hC.trans (chg_set _ _ _ _), hlt⟩
      have hqi : (q : Int) < (bn : Int) := by omega
      have hq0 : (0 : Int) ≤ (q : Int) := by omega
      have hAq : (A : Int) + (q : Int) < (m : Int) := by omega
      clear hP hC hor hcell hfr hcl hst hPs hx hy hql hpl hlt hq
      go_wp2
      go_roundw
      case rel => exact ⟨q + 1, by have := hN.out.2.2; omega, by go_num, hN.out.1, hN.out.2.1⟩
      case measure => have := hN.out.2.2; simp [intOf]; omega
    · subst heq
      have hfin : Hid (Pw B wr g m cap (pt p A q n) ∧ Chg (G1 g) (G1 g) w wr) := by
        refine ⟨?_, (Chg.of_below HO.out.2.1 _).trans hC⟩
        have := hP
        rw [List.take_of_length_le (by rw [HO.out.2.2.1]; exact Nat.le_refl _)] at this
        unfold pt
        rw [HO.out.2.2.2.2]
        exact this
      clear hP hC hq
      go_wp2
      go_end0
      exact ⟨rfl, hfin.out⟩
end Mun
end

section
/- Contracts of munimentref5: Copy, Free, New, Set. -/
set_option maxRecDepth 100000
set_option linter.unusedVariables false
set_option linter.unusedSimpArgs false
namespace Mun
open Go Go.RowKit
open Go.Proofs

/-- a page of the call's own is told -/
def PwOut (w : World) (p : PBytes) (e : Ending) (w' : World) : Prop := ∃ g cap, e = .returned (.slice (some ⟨g, 0, none⟩) 512 cap) ∧ Pw w.heap.size w' g 512 cap p ∧ Below w.heap.size w w'

theorem r5copy {F : Foot} (w : World) (v : Value) (p : List UInt8) (hv : RdB F w v p) (hp : p.length = 512) : Calls Tryz.prog 60 #[v] w (PwOut w p) := by
  obtain ⟨g, cap, w1, hr, ho, hb, hg⟩ := append_nil_bytes (ty := 41) hv (by omega) (by omega)
  rw [hp] at hr ho
  obtain ⟨a1, n, c, rfl, -, -, -⟩ := hv.formN
  have HR := Lib.hid hr
  have HO := Lib.hid (And.intro ho (And.intro hb hp))
  clear hr ho hb hg hv hp
  go_enter Tryz.func60, Tryz.ntmps60
  go_wp2_with (at_builtin; refine wpList_append_eq rfl rfl HR.out rfl rfl ?_; clear HR)
  go_ret
  exact ⟨g, cap, rfl, ⟨HO.out.1, HO.out.2.2.symm, by decide⟩, HO.out.2.1⟩

theorem r5seal {F : Foot} (w : World) (v : Value) (p : List UInt8) (l : Nat) (hv : RdB F w v p) (hp : p.length = 512) (hl : l < 18446744073709551616) : Calls Tryz.prog 22 #[v, .int .u64 l] w (PwOut w (sealP p l)) := by
  have hc := r5copy w v p hv hp
  obtain ⟨a1, n, c, rfl, -, -, -⟩ := hv.formN
  have HC := Lib.hid hc
  have HLX := Lib.hid (And.intro hl hp)
  clear hc hv hl hp
  go_enter Tryz.func22, Tryz.ntmps22
  go_wp2_with fail
  refine HC.out.mono ?_
  rintro e w1 ⟨g, cap, rfl, hp1, hb1⟩
  have h1 := r5put w1 w.heap.size g 512 cap p 4 8 4 8 l rfl rfl hp1 (by omega) HLX.out.1 (by decide) (by decide)
  have H1 := Lib.hid h1
  have HB1 := Lib.hid hb1
  have hgB := hp1.lt.1
  clear h1 hb1 hp1 HC
  go_wp2_with fail
  refine H1.out.mono ?_
  rintro e w2 ⟨rfl, hp2, hc2⟩
  change Pw w.heap.size w2 g 512 cap (lsnP p l) at hp2
  obtain ⟨q, hq⟩ : ∃ q, lsnP p l = q := ⟨_, rfl⟩
  rw [hq] at hp2
  have HQ := Lib.hid hq
  obtain ⟨a4, c4, hs4, hr4⟩ := slice_rest (hp2.rd (F := NoF) (noF _)) 4 4 rfl (by decide) hp2.len
  have hof := refof_any w2 _ (q.drop 4) hr4
  have HOF := Lib.hid hof
  have HP2 := Lib.hid (And.intro hp2 hc2)
  clear hp2 hc2 H1 hr4 hof hq
  go_wp2_with fail
  refine HOF.out.mono ?_
  rintro e w3 ⟨rfl, rfl⟩
  have hlt := (crcOf (q.drop 4)).isLt
  obtain ⟨z, hz⟩ : ∃ z, (crcOf (q.drop 4)).toNat = z := ⟨_, rfl⟩
  rw [hz] at hlt ⊢
  have h2 := r5put w2 w.heap.size g 512 cap q 0 4 0 4 z rfl rfl HP2.out.1 (by omega) (by omega) (by decide) (by decide)
  have H2 := Lib.hid h2
  have HZ := Lib.hid hz
  have hz2 : (z : Int) < 4294967296 := by omega
  clear h2 hlt hz HOF
  go_wp2_with fail
  refine H2.out.mono ?_
  rintro e w3 ⟨rfl, hp3, hc3⟩
  have hfin : Hid (PwOut w (sealP p l) (.returned (.slice (some ⟨g, 0, none⟩) 512 cap)) w3) := by
    refine ⟨g, cap, rfl, ?_, HB1.out.trans ((HP2.out.2.trans hc3).below HB1.out.size (fun k hk e => by have h4 : k = g := e; omega))⟩
    rw [← HZ.out, ← HQ.out] at hp3
    exact hp3
  clear hp3 hc3 H2 HP2 HB1 hgB HQ HZ
  go_wp2
  go_ret
  exact hfin.out
end Mun
end

section
/- Contract of munimentref5.Good. -/
set_option maxRecDepth 100000
set_option linter.unusedVariables false
set_option linter.unusedSimpArgs false
namespace Mun
open Go Go.RowKit
open Go.Proofs

theorem info_bool : (Tryz.prog.info? 4).map (fun i => (i.zero, i.size, i.bytes)) = some (some (.bool false), 1, 1) := by kernel_rfl
@[irreducible] def tkb0 : Array Value := tkA (List.replicate 512 false)
theorem tkb0_eq : tkb0 = tkA (List.replicate 512 false) := by unfold tkb0; rfl
theorem madeCells_bool (n : Nat) : madeCells #[Value.bool false] n = tkA (List.replicate n false) := by
  apply Array.ext_getElem?
  intro i
  by_cases h : i < n
  · simp [madeCells, tkA, h, Nat.mod_one]
  · simp [madeCells, tkA, h]
theorem make_used (w : World) : (Instr.makeSlice 120 (.int .i64 512) (.int .i64 512)).run Tryz.prog w = .ok (.slice (some ⟨w.heap.size, 0, none⟩) 512 512) (w.alloc (.cells tkb0 4)) := by
  obtain ⟨i, hi, hz, h1, h2⟩ := info_of info_bool
  have hr := run_make (P := Tryz.prog) w _ _ i _ Tryz.underlying120 hi hz .i64 .i64 512 512 (by omega) (by omega) (by rw [h2]; omega) (by omega)
  rw [h1] at hr
  have e : madeCells #[Value.bool false] 512 = tkb0 := by rw [tkb0_eq]; exact madeCells_bool 512
  have e2 : (512 : Int).toNat * 1 = 512 := rfl
  simp only [Value.cells, e2] at hr
  rw [e] at hr
  exact hr

structure GdS (w0 wr : World) (T : Nat) (l : List Bool) : Prop where
  bl : Below w0.heap.size w0 wr
  tk : wr.heap[T]? = some (.cells (tkA l) 4 (0, 0))
  len : l.length = 512
  hT : w0.heap.size ≤ T
theorem GdS.cell {w0 wr : World} {T : Nat} {l : List Bool} (h : GdS w0 wr T l) (k : Nat) (hk : k < l.length) : wr.cell? ⟨T, k, none⟩ = some (.bool l[k]) := by
  rw [cell_of_row wr T k _ _ _ h.tk, tkA_get l k hk]
theorem GdS.frozen {w0 wr : World} {T : Nat} {l : List Bool} (h : GdS w0 wr T l) (k : Nat) : wr.frozen? ⟨T, k, none⟩ = false := by simp [World.frozen?, h.tk]
theorem GdS.set {w0 wr : World} {T : Nat} {l : List Bool} (h : GdS w0 wr T l) (k : Nat) (hk : k < l.length) : GdS w0 (wr.setCell ⟨T, k, none⟩ (.bool true)) T (l.set k true) := by
  refine ⟨h.bl.setCell h.hT _, ?_, by rw [List.length_set]; exact h.len, h.hT⟩
  have h1 := h.tk
  have : (tkA l).setIfInBounds k (.bool true) = tkA (l.set k true) := by simp [tkA, List.map_set]
  rw [← this]
  simp [World.setCell, Array.getElem?_modify, h1]

set_option maxHeartbeats 4000000 in
theorem r5good {F : Foot} (w : World) (v : Value) (p : List UInt8) (hv : RdB F w v p) : Calls Tryz.prog 20 #[v] w fun e w' => e = .returned (.bool (goodB p)) ∧ Below w.heap.size w w' := by
  by_cases hp : p.length = 512
  · obtain ⟨g, off, c, rfl, hlc, hcm, hF, hglt, hcells⟩ := hv.at_ (by omega)
    have c13 := hcells 13 (by omega)
    obtain ⟨z, hz⟩ : ∃ z : Nat, p[13].toNat = z := ⟨_, rfl⟩
    rw [hz] at c13
    have hz0 : z = 0 ↔ p[13]? = some 0 := by
      rw [List.getElem?_eq_getElem (by omega)]
      constructor
      · intro h; rw [← hz] at h; congr 1; exact UInt8.toNat_inj.1 h
      · intro h; injection h with h; rw [← hz, h]; rfl
    have HP := Lib.hid hp
    rw [hp] at hv ⊢
    have HV0 := Lib.hid hv
    by_cases h13 : z = 0
    · subst h13
      have h130 := Lib.hid (hz0.1 rfl)
      have hcn := r5count w _ p hv (by rw [HP.out]; decide)
      have hlw := reflow_any w _ p hv (by rw [HP.out]; decide)
      have b1 : lowP p < 65536 := gt2_lt p 16
      have b2 : cnt p < 65536 := gt2_lt p 14
      obtain ⟨lo, hlo⟩ : ∃ lo, lowP p = lo := ⟨_, rfl⟩
      obtain ⟨n, hnn⟩ : ∃ n, cnt p = n := ⟨_, rfl⟩
      rw [hlo] at hlw b1
      rw [hnn] at hcn b2
      have HLO := Lib.hid hlo
      have HNN := Lib.hid hnn
      have HCN := Lib.hid hcn
      have HLW := Lib.hid hlw
      have hmk := make_used w
      have ht : (((0 : Nat) : Int) != 0) = false := rfl
      clear hcells hz hz0 hv hcn hlw hp hlo hnn hF
      go_enter Tryz.func20, Tryz.ntmps20
      go_wp2_with fail
      refine HCN.out.mono ?_
      rintro e w2 ⟨rfl, rfl⟩
      go_wp2_with fail
      refine HLW.out.mono ?_
      rintro e w2 ⟨rfl, rfl⟩
      clear HCN HLW c13
      by_cases hfit : 26 + 4 * n ≤ lo
      · by_cases hlow : lo ≤ 512
        · have hfi : 26 + 4 * (n : Int) ≤ (lo : Int) := by omega
          have hli : (lo : Int) ≤ 512 := by omega
          have HFL : Hid (26 + 4 * n ≤ lo ∧ lo ≤ 512) := by show _ ∧ _; omega
          have HHD : Hid (headOk p) := by show headOk p; exact ⟨HP.out, h130.out, by rw [HLO.out, HNN.out]; omega, by rw [HLO.out]; omega⟩
          clear hfit hlow
          have hst : GdS w (w.alloc (.cells tkb0 4)) w.heap.size (List.replicate 512 false) := by
            refine ⟨(Below.refl _ _).alloc (Nat.le_refl _) _, ?_, by simp, Nat.le_refl _⟩
            rw [← tkb0_eq]
            exact heap_alloc_new w _
          have HST := Lib.hid hst
          have hni : n ≤ 121 := by omega
          clear hst
          go_wp2
          clear hmk
          go_loopw [6] (fun i wr => ∃ (k : Nat) (l : List Bool), k ≤ n ∧ i = .int .i64 (k : Int) ∧ GdS w wr w.heap.size l ∧ tkInv p k l ∧ okUpto p k) (fun i _ => n - (intOf i).toNat)
          case atStart => exact ⟨0, _, by omega, rfl, HST.out, tkInv_zero p, ⟨fun j hj => by omega, fun a b _ hb => by omega⟩⟩
          case round =>
            obtain ⟨k, l, hk, rfl, hR, hI, hO⟩ := hrel
            rcases Nat.lt_or_eq_of_le hk with hlt | heq
            · have hfl := HFL.out
              have hsl := r5slot wr _ p k (RdB.below HV0.out hR.bl) (by rw [HP.out]; omega) (by rw [HP.out]; decide)
              have hb1 : sFrom p k < 65536 := gt2_lt p _
              have hb2 : sSize p k < 65536 := gt2_lt p _
              obtain ⟨f, hf⟩ : ∃ f, sFrom p k = f := ⟨_, rfl⟩
              obtain ⟨s, hs⟩ : ∃ s, sSize p k = s := ⟨_, rfl⟩
              rw [hf] at hsl hb1
              rw [hs] at hsl hb2
              have HK : Hid (k < n ∧ sFrom p k = f ∧ sSize p k = s ∧ f < 65536 ∧ s < 65536) := ⟨hlt, hf, hs, hb1, hb2⟩
              have HR := Lib.hid (And.intro hR (And.intro hI hO))
              have HSL := Lib.hid hsl
              have hki : (k : Int) < (n : Int) := by omega
              have hk0 : (0 : Int) ≤ (k : Int) := by omega
              clear hR hI hO hsl hf hs hlt hk hfl hb1 hb2
              go_wp2_with fail
              refine HSL.out.mono ?_
              rintro e w5 ⟨rfl, rfl⟩
              have hkk := HK.out
              have hf1 : f < 65536 := hkk.2.2.2.1
              have hs1 : s < 65536 := hkk.2.2.2.2
              by_cases hc1 : f < lo
              · have HG : Hid (goodB p = false) := by
                  show _ = _
                  exact goodB_false (not_good_cell (by rw [HNN.out]; exact hkk.1) (fun h => by have := h.1; rw [HLO.out, hkk.2.1] at this; omega))
                have hci : (f : Int) < (lo : Int) := by omega
                clear hkk hc1
                go_wp2
                go_ret
                exact ⟨by rw [HG.out]; rfl, HR.out.1.bl⟩
              · by_cases hc2 : f + s ≤ 512
                · have hci : ¬ (f : Int) < (lo : Int) := by omega
                  have hc2i : (f : Int) + (s : Int) ≤ 512 := by omega
                  have HCC : Hid (lo ≤ f ∧ f + s ≤ 512) := by show _ ∧ _; omega
                  clear hkk hc1 hc2
                  go_wp2
                  obtain ⟨wm, rfl⟩ : ∃ wm : World, wm = wr := ⟨_, rfl⟩
                  go_loopw [9] (fun kk wr2 => ∃ (x : Nat) (l2 : List Bool), f ≤ x ∧ x ≤ f + s ∧ kk = .int .i64 (x : Int) ∧ GdS w wr2 w.heap.size l2 ∧ tkMid p k x l2 ∧ (∀ y, f ≤ y → y < x → ¬ ∃ j, j < k ∧ inC p j y)) (fun kk _ => f + s - (intOf kk).toNat)
                  case atStart =>
                    refine ⟨f, l, Nat.le_refl _, by omega, rfl, HR.out.1, ?_, fun y h1 h2 => by omega⟩
                    have := tkMid_start HR.out.2.1
                    rw [HK.out.2.1] at this
                    exact this
                  case round =>
                    obtain ⟨x, l2, hx1, hx2, rfl, hR2, hM2, hF2⟩ := hrel
                    rcases Nat.lt_or_eq_of_le hx2 with hxlt | hxeq
                    · have hcc := HCC.out
                      have hx512 : x < l2.length := by rw [hR2.len]; omega
                      have hcl := hR2.cell x hx512
                      have hfr := hR2.frozen x
                      cases hb : l2[x] with
                      | true =>
                        have hex : ∃ j, j < k ∧ inC p j x := by
                          have := (hM2 x (by omega)).1 (by rw [List.getElem?_eq_getElem hx512, hb])
                          rcases this with h | h
                          · exact h
                          · omega
                        have HG : Hid (goodB p = false) := by
                          show _ = _
                          have hkk := HK.out
                          exact goodB_false (not_good_taken (k := x) (by rw [HNN.out]; exact hkk.1) ⟨by rw [hkk.2.1]; exact hx1, by rw [hkk.2.1, hkk.2.2.1]; exact hxlt⟩ hex)
                        rw [hb] at hcl
                        have HB := Lib.hid hR2.bl
                        have hxi : (x : Int) < (f : Int) + (s : Int) := by omega
                        have hxn : x < 512 := by omega
                        clear hR2 hM2 hF2 hex hb hcc hx1 hx2 hxlt hx512
                        go_wp2
                        go_ret
                        exact ⟨by rw [HG.out]; rfl, HB.out⟩
                      | false =>
                        have hnex : ¬ ∃ j, j < k ∧ inC p j x := by
                          intro h
                          have := (hM2 x (by omega)).2 (.inl h)
                          rw [List.getElem?_eq_getElem hx512, hb] at this
                          cases this
                        have hset := hR2.set x hx512
                        have hmid := tkMid_step hM2 hR2.len (by rw [HK.out.2.1]; exact hx1) (by omega)
                        have HN2 : Hid (GdS w (wr.setCell ⟨w.heap.size, x, none⟩ (.bool true)) w.heap.size (l2.set x true) ∧ tkMid p k (x + 1) (l2.set x true) ∧ (∀ y, f ≤ y → y < x + 1 → ¬ ∃ j, j < k ∧ inC p j y) ∧ f ≤ x ∧ x < f + s) := by
                          refine ⟨hset, hmid, fun y h1 h2 => ?_, hx1, hxlt⟩
                          rcases Nat.lt_or_eq_of_le (Nat.lt_succ_iff.1 h2) with h | rfl
                          · exact hF2 y h1 h
                          · exact hnex
                        rw [hb] at hcl
                        have hxi : (x : Int) < (f : Int) + (s : Int) := by omega
                        have hxn : x < 512 := by omega
                        clear hR2 hM2 hF2 hnex hb hcc hx1 hx2 hxlt hx512 hset hmid
                        go_wp2
                        go_roundw
                        case rel => exact ⟨x + 1, _, by have := HN2.out; omega, by have := HN2.out; omega, by go_num, HN2.out.1, HN2.out.2.1, HN2.out.2.2.1⟩
                        case measure => have := HN2.out; simp [intOf]; omega
                    · subst hxeq
                      have HE : Hid (GdS w wr w.heap.size l2 ∧ tkInv p (k + 1) l2 ∧ okUpto p (k + 1)) := by
                        have hkk := HK.out
                        refine ⟨hR2, tkMid_end (by rw [hkk.2.1, hkk.2.2.1]; exact hM2), okUpto_succ HR.out.2.2 ?_ ?_⟩
                        · rw [hkk.2.1, hkk.2.2.1, HLO.out]; exact HCC.out
                        · intro y hy
                          unfold inC at hy
                          rw [hkk.2.1, hkk.2.2.1] at hy
                          exact hF2 y hy.1 hy.2
                      have hxi : ¬ (((f + s : Nat) : Int) < (f : Int) + (s : Int)) := by omega
                      clear hR2 hM2 hF2 hx1 hx2
                      go_wp2
                      go_roundw
                      case rel => exact ⟨k + 1, l2, by have := HK.out; omega, by go_num, HE.out.1, HE.out.2.1, HE.out.2.2⟩
                      case measure => have := HK.out; simp [intOf]; omega
                · have HG : Hid (goodB p = false) := by
                    show _ = _
                    exact goodB_false (not_good_cell (by rw [HNN.out]; exact hkk.1) (fun h => by have := h.2; rw [hkk.2.1, hkk.2.2.1] at this; omega))
                  have hci : ¬ (f : Int) < (lo : Int) := by omega
                  have hc2i : (f : Int) + (s : Int) > 512 := by omega
                  clear hkk hc1 hc2
                  go_wp2
                  go_ret
                  exact ⟨by rw [HG.out]; rfl, HR.out.1.bl⟩
            · subst heq
              have HG : Hid (goodB p = true) := by show _ = _; exact goodB_true (good_of HHD.out (by rw [HNN.out]; exact hO))
              have HB := Lib.hid hR.bl
              clear hR hI hO hk
              go_wp2
              go_ret
              exact ⟨by rw [HG.out]; rfl, HB.out⟩
        · have HG : Hid (goodB p = false) := by show _ = _; exact goodB_false (fun h => hlow (by rw [← HLO.out]; exact h.low))
          have hfi : 26 + 4 * (n : Int) ≤ (lo : Int) := by omega
          have hli : ((lo : Int) > 512) := by omega
          clear hfit hlow hmk
          go_wp2
          go_ret
          exact ⟨by rw [HG.out]; rfl, Below.refl _ _⟩
      · have HG : Hid (goodB p = false) := by show _ = _; exact goodB_false (fun h => hfit (by rw [← HLO.out, ← HNN.out]; exact h.fit))
        have hfi : 26 + 4 * (n : Int) > (lo : Int) := by omega
        clear hfit hmk
        go_wp2
        go_ret
        exact ⟨by rw [HG.out]; rfl, Below.refl _ _⟩
    · have HG : Hid (goodB p = false) := by show _ = _; exact goodB_false (fun h => h13 (hz0.2 h.none))
      have t13 : ((z : Int) == 0) = false := by simpa using h13
      have t14 : ((z : Int) != 0) = true := by simpa using h13
      clear hcells hz hz0 hv
      go_enter Tryz.func20, Tryz.ntmps20
      go_wp2
      go_ret
      exact ⟨by rw [HG.out]; rfl, Below.refl _ _⟩
  · have HG : Hid (goodB p = false) := by show _ = _; exact goodB_false (fun h => hp h.len)
    obtain ⟨a, n, c, rfl, HN, hlc, hcm⟩ := hv.formN
    have hn : ((n : Int) != 512) = true := by have := HN.out; simp; omega
    have hn2 : ((n : Int) == 512) = false := by have := HN.out; simp; omega
    clear hv hp
    go_enter Tryz.func20, Tryz.ntmps20
    go_wp2
    go_ret
    exact ⟨by rw [HG.out]; rfl, Below.refl _ _⟩
end Mun
end

section
/- Plain: the reference's pages are the program's. No program in sight. -/
set_option linter.unusedVariables false
set_option linter.unusedSimpArgs false
namespace Mun

/-- the reference's laying out anew -/
def rcZ (p : PBytes) : PBytes := putAt p (26 + 4 * cnt p) (zer (512 - (26 + 4 * cnt p)))
def rcS (p : PBytes) : Nat → PBytes
  | 0 => rcZ p
  | k + 1 => pt (putAt (rcS p k) (512 - szs p (k + 1)) (cellP p k)) (26 + 4 * k) 2 (512 - szs p (k + 1))
def rcompP (p : PBytes) : PBytes := pt (rcS p (cnt p)) 16 2 (512 - szs p (cnt p))

structure RcI (p : PBytes) (k : Nat) (q : PBytes) : Prop where
  len : q.length = 512
  head : ∀ a n, a + n ≤ 26 → win q a n = win p a n
  size : ∀ j, j < cnt p → sSize q j = sSize p j
  from_ : ∀ j, j < k → sFrom q j = 512 - szs p (j + 1)
  cell : ∀ j, j < k → win q (512 - szs p (j + 1)) (sSize p j) = cellP p j
  zero : ∀ a n, 26 + 4 * cnt p ≤ a → a + n ≤ 512 - szs p k → win q a n = zer n

/-- the reference's hole: the size alone -/
def rholeP (p : PBytes) (i : Nat) : PBytes := pt p (26 + 4 * i + 2) 2 0
structure HoleE (p h : PBytes) (i : Nat) : Prop where
  ok : AnewOk h
  cnt : cnt h = cnt p
  low : lowP h = lowP p

/-- slots moved down: what stands after some -/
def dnP (p : PBytes) (i k : Nat) : PBytes := putAt p (26 + 4 * i) (win p (26 + 4 * (i + 1)) (4 * (k - i)))
/-- the reference's Insert -/
def rinsP (p : PBytes) (i : Nat) (c : PBytes) : PBytes :=
  putAt (pt (pt (pt (pt (upP (roomP p (c.length + 4)) i (cnt p)) (26 + 4 * i) 2 (lowP (roomP p (c.length + 4)) - c.length)) (26 + 4 * i + 2) 2 c.length) 14 2 (cnt p + 1)) 16 2 (lowP (roomP p (c.length + 4)) - c.length)) (lowP (roomP p (c.length + 4)) - c.length) c
/-- the reference's Remove -/
def rremP (p : PBytes) (i : Nat) : PBytes :=
  if cnt p = 1 then pt (pt (pt (dnP p i (cnt p - 1)) (26 + 4 * (cnt p - 1)) 4 0) 14 2 (cnt p - 1)) 16 2 512 else pt (pt (dnP p i (cnt p - 1)) (26 + 4 * (cnt p - 1)) 4 0) 14 2 (cnt p - 1)
theorem le_zero : leBytes 4 0 = zer 4 := by decide
/-- the reference's Replace -/
def rrepP (p : PBytes) (i : Nat) (c : PBytes) : PBytes :=
  if c.length ≤ sSize p i then putAt (pt p (26 + 4 * i + 2) 2 c.length) (sFrom p i) c
  else
    let q := if lowP p < 26 + 4 * cnt p + c.length then rcompP (rholeP p i) else rholeP p i
    putAt (pt (pt (pt q 16 2 (lowP q - c.length)) (26 + 4 * i) 2 (lowP q - c.length)) (26 + 4 * i + 2) 2 c.length) (lowP q - c.length) c

end Mun
end

section
/- What calls tell is new memory: uniform contracts; rows of rows of the call's own. -/
set_option maxRecDepth 100000
set_option linter.unusedVariables false
set_option linter.unusedSimpArgs false
namespace Mun
open Go Go.RowKit
open Go.Proofs

/-- bytes in new memory, or nil, and a number -/
def Kept1 (w : World) (e : Ending) (w' : World) : Prop := ∃ v k L, e = .returned (.tuple #[v, .int .i64 k]) ∧ OwnB w' w.heap.size 5 v L ∧ Below w.heap.size w w' ∧ L.length ≤ 512

theorem own_block {w : World} {B g : Nat} {c : PBytes} (h : w.heap[g]? = some (bobj c)) (n : Nat) (hn : c.length = n) (hm : n ≤ maxLen) (hB : B ≤ g) : OwnB w B 5 (.slice (some ⟨g, 0, none⟩) n n) c := by
  subst hn
  refine ⟨by simp [bv], .inr ⟨g, c.length, _, rfl, hB, h, Nat.le_refl _, hm, by simp [bv], ?_⟩⟩
  rw [List.take_of_length_le (by simp [bv])]
theorem PageOut.kept {w w' : World} {p : PBytes} {e : Ending} (h : PageOut w p e w') : Kept1 w e w' := by
  obtain ⟨g, rfl, hp, hg, hb⟩ := h
  exact ⟨_, 0, p, rfl, own_block hp.1 512 hp.2 (by decide) hg, hb, by rw [hp.2]; exact Nat.le_refl _⟩
theorem PageNo.kept {w w' : World} {k : Int} {e : Ending} (h : PageNo w k e w') : Kept1 w e w' := by
  obtain ⟨rfl, hb⟩ := h
  exact ⟨_, k, [], rfl, OwnB.nil _ _ _, hb, by simp⟩
theorem BytesOut.kept {w w' : World} {c : PBytes} {e : Ending} (h : BytesOut w c e w') (hm : c.length ≤ 512) : Kept1 w e w' := by
  obtain ⟨g, rfl, hp, hg, hb⟩ := h
  exact ⟨_, 0, c, rfl, own_block hp _ rfl (by unfold maxLen; omega) hg, hb, hm⟩

section
variable {F : Foot} (w : World) (v u : Value) (p c : List UInt8) (i : Int)
end

/-- values of the call's own, apart -/
structure OwnL (B : Nat) (w0 wr : World) (vs : List Value) (Ls : List PBytes) : Prop where
  bl : Below B w0 wr
  len : Ls.length = vs.length
  own : ∀ (i : Nat) (v : Value), vs[i]? = some v → ∃ L, Ls[i]? = some L ∧ OwnB wr B 5 v L
  apart : ∀ (i j : Nat) (v u : Value), vs[i]? = some v → vs[j]? = some u → i ≠ j → ∀ k, v.ownBlock = some k → u.ownBlock ≠ some k

theorem OwnL.nil {B : Nat} {w0 wr : World} (h : Below B w0 wr) : OwnL B w0 wr [] [] := ⟨h, rfl, fun i v h => by simp at h, fun i j v u h => by simp at h⟩
theorem OwnL.below {B : Nat} {w0 wr w' : World} {vs : List Value} {Ls : List PBytes} (h : OwnL B w0 wr vs Ls) (hB : B ≤ wr.heap.size) (hb : Below wr.heap.size wr w') : OwnL B w0 w' vs Ls :=
  ⟨h.bl.trans (hb.mono hB), h.len, fun i v hv => by obtain ⟨L, h1, h2⟩ := h.own i v hv; exact ⟨L, h1, h2.below hb⟩, h.apart⟩
theorem OwnB.lower {w : World} {B B' : Nat} {v : Value} {L : PBytes} (h : OwnB w B 5 v L) (hB : B' ≤ B) : OwnB w B' 5 v L := ownsRow_base h (fun k hk => Nat.le_trans hB (h.lt k hk).1)

theorem getElem?_append_cases {α : Type} {l1 l2 : List α} {i : Nat} {x : α} (h : (l1 ++ l2)[i]? = some x) : (i < l1.length ∧ l1[i]? = some x) ∨ (l1.length ≤ i ∧ l2[i - l1.length]? = some x) := by
  rcases Nat.lt_or_ge i l1.length with hl | hl
  · rw [List.getElem?_append_left hl] at h; exact .inl ⟨hl, h⟩
  · rw [List.getElem?_append_right hl] at h; exact .inr ⟨hl, h⟩

/-- two of them, the blocks of the latter newer -/
theorem OwnL.app {B : Nat} {w0 w1 wr : World} {vs us : List Value} {Ls Us : List PBytes} (h : OwnL B w0 wr vs Ls) (k : OwnL w1.heap.size w1 wr us Us) (hB : B ≤ w1.heap.size) (hold : ∀ (i : Nat) (v : Value), vs[i]? = some v → ∀ j, v.ownBlock = some j → j < w1.heap.size) : OwnL B w0 wr (us ++ vs) (Us ++ Ls) := by
  refine ⟨h.bl, by simp [h.len, k.len], fun i v hv => ?_, fun i j v u hv hu hij b hb hb2 => ?_⟩
  · rcases getElem?_append_cases hv with ⟨h1, h2⟩ | ⟨h1, h2⟩
    · obtain ⟨L, h3, h4⟩ := k.own i v h2
      exact ⟨L, by rw [List.getElem?_append_left (by rw [k.len]; exact h1)]; exact h3, h4.lower hB⟩
    · obtain ⟨L, h3, h4⟩ := h.own _ v h2
      exact ⟨L, by rw [List.getElem?_append_right (by rw [k.len]; exact h1), k.len]; exact h3, h4⟩
  · rcases getElem?_append_cases hv with ⟨h1, h2⟩ | ⟨h1, h2⟩ <;> rcases getElem?_append_cases hu with ⟨h3, h4⟩ | ⟨h3, h4⟩
    · exact k.apart i j v u h2 h4 hij b hb hb2
    · obtain ⟨L, _, h6⟩ := k.own i v h2
      have := (h6.lt b hb).1
      have := hold _ u h4 b hb2
      omega
    · obtain ⟨L, _, h6⟩ := k.own j u h4
      have := (h6.lt b hb2).1
      have := hold _ v h2 b hb
      omega
    · exact h.apart _ _ v u h2 h4 (by omega) b hb hb2

theorem OwnL.lt {B : Nat} {w0 wr : World} {vs : List Value} {Ls : List PBytes} (h : OwnL B w0 wr vs Ls) (i : Nat) (v : Value) (hv : vs[i]? = some v) (j : Nat) (hj : v.ownBlock = some j) : B ≤ j ∧ j < wr.heap.size := by
  obtain ⟨L, _, h2⟩ := h.own i v hv
  exact h2.lt j hj

/-- a row of new rows, or nil -/
def KeptL (w : World) (e : Ending) (w' : World) : Prop := ∃ u k us Us, e = .returned (.tuple #[u, .int .i64 k]) ∧ OwnV w' w.heap.size u us ∧ OwnL w.heap.size w w' us Us ∧ us.length ≤ 121 ∧ ∀ L ∈ Us, L.length ≤ 512

end Mun
end

section
/- Contracts of munimentref5: New, Check. -/
set_option maxRecDepth 100000
set_option linter.unusedVariables false
set_option linter.unusedSimpArgs false
namespace Mun
open Go Go.RowKit
open Go.Proofs

/-- all noughts so far -/
def zk (p : PBytes) (k : Nat) : Bool := decide (p.length = 512) && (p.take k).all (· == 0)
theorem zk_zero (p : PBytes) : zk p 0 = decide (p.length = 512) := by simp [zk]
theorem zk_succ (p : PBytes) (k : Nat) (hk : k < p.length) : zk p (k + 1) = (zk p k && (p[k] == 0)) := by
  unfold zk
  rw [take_snoc p k hk, List.all_append, List.all_cons, List.all_nil, Bool.and_true, Bool.and_assoc]
theorem zk_all (p : PBytes) : zk p p.length = decide (p = zer 512) := by
  unfold zk
  rw [List.take_length]
  by_cases h : p = zer 512
  · subst h
    rfl
  · rw [decide_eq_false h]
    by_cases hl : p.length = 512
    · rw [decide_eq_true hl, Bool.true_and]
      by_cases ha : p.all (· == 0) = true
      · exfalso
        apply h
        unfold zer
        rw [List.eq_replicate_iff]
        refine ⟨hl, fun b hb => ?_⟩
        rw [List.all_eq_true] at ha
        simpa using ha b hb
      · simpa using ha
    · rw [decide_eq_false hl, Bool.false_and]

set_option maxHeartbeats 1000000 in
theorem r5check {F : Foot} (w : World) (v : Value) (p : List UInt8) (hv : RdB F w v p) : Calls Tryz.prog 27 #[v] w fun e w' => e = .returned (.int .i64 (checkP p)) ∧ Below w.heap.size w w' := by
  have HV := Lib.hid hv
  have hcell : ∀ k, k < p.length → ∃ g off c z, v = .slice (some ⟨g, off, none⟩) p.length c ∧ w.cell? ⟨g, off + k, none⟩ = some (.int .u8 ((z : Nat) : Int)) ∧ (z = 0 ↔ p[k]? = some 0) := by
    intro k hk
    obtain ⟨g, off, c, rfl, -, -, -, -, hcells⟩ := hv.at_ (by omega)
    have h1 := hcells k hk
    refine ⟨g, off, c, p[k].toNat, rfl, h1, ?_⟩
    rw [List.getElem?_eq_getElem hk]
    constructor
    · intro h; congr 1; exact UInt8.toNat_inj.1 h
    · intro h; injection h with h; rw [h]; rfl
  have HC := Lib.hid hcell
  obtain ⟨a, n, c, rfl, HN, hlc, hcm⟩ := hv.formN
  have hnm : (n : Int) ≤ 9223372036854775807 := by unfold maxLen at hcm; omega
  have htest : ((n : Int) == 512) = zk p 0 := by
    rw [zk_zero, ← HN.out]
    by_cases h : n = 512
    · subst h; rfl
    · rw [decide_eq_false h]; simp; omega
  obtain ⟨b0, hb0⟩ : ∃ b, zk p 0 = b := ⟨_, rfl⟩
  rw [hb0] at htest
  have HB0 := Lib.hid hb0
  clear hv hcell hcm hlc hb0
  go_enter Tryz.func27, Tryz.ntmps27
  go_wp2
  go_loop [3, 4] (fun z i => ∃ k : Nat, k ≤ n ∧ i = .int .i64 (k : Int) ∧ z = .bool (zk p k)) (fun _ i => n - (intOf i).toNat)
  case atStart => exact ⟨0, by omega, rfl, by rw [HB0.out]⟩
  case round =>
    obtain ⟨k, hk, rfl, rfl⟩ := hrel
    rcases Nat.lt_or_eq_of_le hk with hlt | heq
    · have hkp : k < p.length := by rw [← HN.out]; exact hlt
      obtain ⟨g, off, c2, z, e, hz1, hz2⟩ := HC.out k hkp
      injection e with e1 _ e3
      subst e1 e3
      have hs := zk_succ p k hkp
      have hpz : (p[k] == 0) = decide (z = 0) := by
        rw [List.getElem?_eq_getElem hkp] at hz2
        by_cases h : z = 0
        · have := hz2.1 h
          injection this with this
          rw [this, decide_eq_true h]; rfl
        · rw [decide_eq_false h]
          have : ¬ p[k] = 0 := fun h2 => h (hz2.2 (by rw [h2]))
          simpa using this
      rw [hpz] at hs
      obtain ⟨b, hb⟩ : ∃ b, zk p k = b := ⟨_, rfl⟩
      rw [hb] at hs ⊢
      have HS := Lib.hid (And.intro hs hlt)
      have hki : (k : Int) < (n : Int) := by omega
      have hk0 : (0 : Int) ≤ (k : Int) := by omega
      clear hkp hz2 hs hpz hb hlt hk
      cases b with
      | true =>
        by_cases h0 : z = 0
        · subst h0
          have t0 : (((0 : Nat) : Int) == 0) = true := rfl
          go_wp2
          go_round
          case rel => exact ⟨k + 1, by have := HS.out.2; omega, by go_num, by rw [HS.out.1]; rfl⟩
          case measure => have := HS.out.2; simp [intOf]; omega
        · have t0 : ((z : Int) == 0) = false := by simpa using h0
          have HF : Hid (decide (z = 0) = false) := by show _ = _; exact decide_eq_false h0
          clear h0
          go_wp2
          go_round
          case rel => exact ⟨k + 1, by have := HS.out.2; omega, by go_num, by rw [HS.out.1, HF.out]; rfl⟩
          case measure => have := HS.out.2; simp [intOf]; omega
      | false =>
        go_wp2
        go_round
        case rel => exact ⟨k + 1, by have := HS.out.2; omega, by go_num, by rw [HS.out.1]; rfl⟩
        case measure => have := HS.out.2; simp [intOf]; omega
    · subst heq
      have hza := zk_all p
      rw [← HN.out] at hza
      rw [hza]
      clear hza hk
      by_cases hz : p = zer 512
      · have HR : Hid (checkP p = 0) := by show _ = _; unfold checkP; rw [if_pos hz]
        rw [decide_eq_true hz]
        clear hz
        go_wp2
        go_ret
        exact ⟨by rw [HR.out]; rfl, Below.refl _ _⟩
      · rw [decide_eq_false hz]
        have hgd := r5good w _ p HV.out
        by_cases hg : GoodP p
        · rw [goodB_true hg] at hgd
          have HP : Hid (p.length = 512) := hg.len
          have HCK : Hid (checkP p = if gt p 0 4 ≠ (crcOf (p.drop 4)).toNat then 8 else 0) := by show _ = _; unfold checkP; rw [if_neg hz, if_neg (by simpa using hg)]
          have HGD := Lib.hid hgd
          have hn512 : k = 512 := by rw [HN.out]; exact hg.len
          subst hn512
          clear hz hgd hg
          go_wp2_with fail
          refine HGD.out.mono ?_
          rintro e w2 ⟨rfl, hb2⟩
          have hv2 := RdB.below HV.out hb2
          obtain ⟨a4, c4, hsl, hr4⟩ := slice_rest hv2 4 4 rfl (by decide) HP.out.symm
          have hgt := fun j => r5get (w2.drewN j) _ p 0 4 0 4 rfl rfl (hv2.drewN j) (by rw [HP.out]; decide) (by decide)
          have hof := fun j => refof_any (w2.drewN j) _ (p.drop 4) (hr4.drewN j)
          obtain ⟨x, hx⟩ : ∃ x, gt p 0 4 = x := ⟨_, rfl⟩
          have hxb : x < 4294967296 := by rw [← hx]; exact gt4_lt p 0
          have hsb := (crcOf (p.drop 4)).isLt
          obtain ⟨s, hs⟩ : ∃ s, (crcOf (p.drop 4)).toNat = s := ⟨_, rfl⟩
          rw [hs] at hsb hof HCK
          rw [hx] at hgt HCK
          have HGT := Lib.hid hgt
          have HOF := Lib.hid hof
          have HB2 := Lib.hid hb2
          have hxi : (x : Int) < 4294967296 := by omega
          have hx0 : (0 : Int) ≤ (x : Int) := by omega
          have hsi : (s : Int) < 4294967296 := by omega
          clear hv2 hr4 hgt hof hx hs hb2 HGD hxb hsb
          by_cases hxs : x = s
          · have t1 : ((x : Int) != (s : Int)) = false := by simp [hxs]
            have HR : Hid (checkP p = 0) := by show _ = _; rw [HCK.out, if_neg (by simp [hxs])]
            clear hxs
            go_wp2
            go_quiet ((first | (go_at_call 66; exact quiet_eq (HGT.out _)) | (go_at_call 62; exact quiet_eq (HOF.out _))))
            go_wp2
            go_ret
            exact ⟨by rw [HR.out]; rfl, below_drewN HB2.out _⟩
          · have t1 : ((x : Int) != (s : Int)) = true := by
              have h3 : ¬ ((x : Int) = (s : Int)) := by omega
              simpa using h3
            have HR : Hid (checkP p = 8) := by show _ = _; rw [HCK.out, if_pos hxs]
            clear hxs
            go_wp2
            go_quiet ((first | (go_at_call 66; exact quiet_eq (HGT.out _)) | (go_at_call 62; exact quiet_eq (HOF.out _))))
            go_wp2
            go_ret
            exact ⟨by rw [HR.out]; rfl, below_drewN HB2.out _⟩
        · rw [goodB_false hg] at hgd
          have HR : Hid (checkP p = 4) := by show _ = _; unfold checkP; rw [if_neg hz, if_pos hg]
          have HGD := Lib.hid hgd
          clear hz hgd hg
          go_wp2_with fail
          refine HGD.out.mono ?_
          rintro e w2 ⟨rfl, hb2⟩
          have HB2 := Lib.hid hb2
          clear hb2
          go_wp2
          go_ret
          exact ⟨by rw [HR.out]; rfl, HB2.out⟩
end Mun
end
