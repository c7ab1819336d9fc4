/- Contracts of munimentref5: get, put, Count, slot, Copy, Free. -/
import Derived.Test.YtjfepmohoijalaaListsW
import Derived.Test.YtjfepmohoijalaaListPl
import Derived.Test.YtjfepmohoijalaaP16
set_option maxRecDepth 100000
set_option linter.unusedVariables false
set_option linter.unusedSimpArgs false
namespace Mun
open Go Go.RowKit
open Go.Proofs

/-- a step of laying bytes in -/
theorem putAt_zero (p : PBytes) (A : Nat) : putAt p A [] = p := by simp [putAt]
theorem putAt_step (p bs : PBytes) (A k : Nat) (hk : k < bs.length) (hA : A + bs.length ≤ p.length) : (putAt p A (bs.take k)).set (A + k) bs[k] = putAt p A (bs.take (k + 1)) := by
  have e1 : A + (bs.take k).length ≤ p.length := by rw [List.length_take]; omega
  have e2 : A + (bs.take (k + 1)).length ≤ p.length := by rw [List.length_take]; omega
  apply List.ext_getElem?
  intro j
  rw [putAt_getElem? _ _ _ e2]
  by_cases hj : j = A + k
  · subst hj
    rw [List.getElem?_set_self (by rw [putAt_length _ _ _ e1]; omega), if_pos (by rw [List.length_take]; omega), List.getElem?_take, if_pos (by omega), List.getElem?_eq_getElem (by omega)]
    congr 2
    omega
  · rw [List.getElem?_set_ne (Ne.symm hj), putAt_getElem? _ _ _ e1]
    by_cases h1 : A ≤ j ∧ j < A + k
    · rw [if_pos (by rw [List.length_take]; omega), if_pos (by rw [List.length_take]; omega), List.getElem?_take, if_pos (by omega), List.getElem?_take, if_pos (by omega)]
    · rw [if_neg (by rw [List.length_take]; omega), if_neg (by rw [List.length_take]; omega)]

/-- a page of the call's own that may be written -/
structure Pw (B : Nat) (wr : World) (g m cap : Nat) (p : PBytes) : Prop where
  own : OwnB wr B 5 (.slice (some ⟨g, 0, none⟩) m cap) p
  len : m = p.length
  pos : 0 < m

theorem Pw.rd {F : Foot} {B : Nat} {wr : World} {g m cap : Nat} {p : PBytes} (h : Pw B wr g m cap p) (hF : ¬ F g) : RdB F wr (.slice (some ⟨g, 0, none⟩) m cap) p :=
  RdV.of_own' h.own (fun k hk => by simp only [Value.ownBlock, Option.some.injEq] at hk; subst hk; exact hF)
theorem Pw.lt {B : Nat} {wr : World} {g m cap : Nat} {p : PBytes} (h : Pw B wr g m cap p) : B ≤ g ∧ g < wr.heap.size := h.own.lt g rfl
theorem Pw.set {B : Nat} {wr : World} {g m cap : Nat} {p : PBytes} (h : Pw B wr g m cap p) (i : Nat) (hi : i < m) (b : UInt8) (x : Int) (hx : x = b.toNat) : Pw B (wr.setCell ⟨g, i, none⟩ (.int .u8 x)) g m cap (p.set i b) :=
  ⟨h.own.set rfl (by rw [← h.len]; exact hi) b x hx, by rw [List.length_set]; exact h.len, h.pos⟩
theorem Pw.below {B : Nat} {wr w' : World} {g m cap : Nat} {p : PBytes} (h : Pw B wr g m cap p) (hb : Below wr.heap.size wr w') : Pw B w' g m cap p := ⟨h.own.below hb, h.len, h.pos⟩
theorem chg_set (w : World) (g i : Nat) (v : Value) : Chg (G1 g) (G1 g) w (w.setCell ⟨g, i, none⟩ v) := by
  refine ⟨rfl, rfl, rfl, by simp, fun k _ hk => ?_, fun k hk => .inl hk⟩
  have hk' : g ≠ k := fun e => hk e.symm
  simp [World.setCell, Array.getElem?_modify, hk']

set_option maxHeartbeats 1000000 in
theorem r5put (w : World) (B g m cap : Nat) (p : List UInt8) (a k : Int) (A K n : Nat) (hA : a = A) (hK : k = K) (hg : Pw B w g m cap p) (h : A + K ≤ m) (hn : n < 18446744073709551616) (hm : m ≤ 100000) (hK8 : K ≤ 8) :
    Calls Try.prog 25 #[.slice (some ⟨g, 0, none⟩) m cap, .int .i64 a, .int .i64 k, .int .u64 n] w fun e w' => e = .returned (.tuple #[]) ∧ Pw B w' g m cap (pt p A K n) ∧ Chg (G1 g) (G1 g) w w' := by
  subst hA hK
  have hput := refput_any w n (K : Int) K rfl hn hK8
  have HPT := Lib.hid hput
  have HG := Lib.hid (And.intro hg hK8)
  have hAi : (A : Int) ≤ 100000 := by omega
  have hKi : (K : Int) ≤ 8 := by omega
  clear hput hg hn hK8
  go_enter Try.func25, Try.ntmps25
  go_wp2_with fail
  refine HPT.out.mono ?_
  rintro e w1 ⟨v1, rfl, ho1, hb1⟩
  have hbl := leBytes_length K n
  obtain ⟨bs, hbs⟩ : ∃ bs, leBytes K n = bs := ⟨_, rfl⟩
  rw [hbs] at ho1 hbl
  obtain ⟨ba, bn, bc, rfl, HBN, -, -⟩ := (OwnB.rd (F := NoF) ho1 (fun _ _ => noF _)).formN
  obtain rfl : bn = K := by rw [HBN.out]; exact hbl
  have hgw := HG.out.1.lt.2
  have HO := Lib.hid (And.intro ho1 (And.intro hb1 (And.intro hbl (And.intro hgw hbs))))
  have HG1 := Lib.hid (HG.out.1.below hb1)
  clear ho1 hb1 hbl hgw hbs HPT
  go_wp2
  go_loopw [9] (fun i wr => ∃ q : Nat, q ≤ bn ∧ i = .int .i64 (q : Int) ∧ Pw B wr g m cap (putAt p A (bs.take q)) ∧ Chg (G1 g) (G1 g) w1 wr) (fun i _ => bn - (intOf i).toNat)
  case atStart => exact ⟨0, by omega, rfl, by rw [List.take_zero, putAt_zero]; exact HG1.out, Chg.refl _ _⟩
  case round =>
    obtain ⟨q, hq, rfl, hP, hC⟩ := hrel
    rcases Nat.lt_or_eq_of_le hq with hlt | heq
    · have hor : OwnB wr w.heap.size 5 (.slice ba bn bc) bs := HO.out.1.chg hC (fun k hk hF => by
        have h1 := (HO.out.1.lt k hk).1
        have h2 := HO.out.2.2.2.1
        have h3 : k = g := hF
        omega)
      obtain ⟨bg, bc2, e, -, -, -, -, hcell, -⟩ := hor.at_ (by rw [HO.out.2.2.1]; omega)
      injection e with e1 e2 e3
      subst e1 e3
      clear e2
      have hc1 := hcell q (by rw [HO.out.2.2.1]; exact hlt)
      have hql : q < bs.length := by rw [HO.out.2.2.1]; exact hlt
      have hpl : A + bs.length ≤ p.length := by rw [HO.out.2.2.1, ← HG.out.1.len]; exact h
      have hst := putAt_step p bs A q hql hpl
      have hPs := hP.set (A + q) (by omega) bs[q] (bs[q].toNat : Int) rfl
      rw [hst] at hPs
      obtain ⟨x, hx⟩ : ∃ x : Int, ((bs[q]'hql).toNat : Int) = x := ⟨_, rfl⟩
      rw [hx] at hc1 hPs
      obtain ⟨ag, ac, e9, -, -, -, -, hcl, hfr⟩ := hP.own.at_ (by rw [← hP.len]; exact hP.pos)
      injection e9 with e10 _ e11
      injection e10 with e10
      injection e10 with e10 _ _
      subst e10 e11
      have hc2 := hcl (A + q) (by rw [← hP.len]; omega)
      have hf2 := hfr (A + q)
      obtain ⟨y, hy⟩ : ∃ y : Int, (((putAt p A (bs.take q))[A + q]'(by rw [← hP.len]; omega)).toNat : Int) = y := ⟨_, rfl⟩
      rw [hy] at hc2
      have hN : Hid (Pw B (wr.setCell ⟨g, A + q, none⟩ (.int .u8 x)) g m cap (putAt p A (bs.take (q + 1))) ∧ Chg (G1 g) (G1 g) w1 (wr.setCell ⟨g, A + q, none⟩ (.int .u8 x)) ∧ q < bn) := ⟨hPs, hC.trans (chg_set _ _ _ _), hlt⟩
      have hqi : (q : Int) < (bn : Int) := by omega
      have hq0 : (0 : Int) ≤ (q : Int) := by omega
      have hAq : (A : Int) + (q : Int) < (m : Int) := by omega
      clear hP hC hor hcell hfr hcl hst hPs hx hy hql hpl hlt hq
      go_wp2
      go_roundw
      case rel => exact ⟨q + 1, by have := hN.out.2.2; omega, by go_num, hN.out.1, hN.out.2.1⟩
      case measure => have := hN.out.2.2; simp [intOf]; omega
    · subst heq
      have hfin : Hid (Pw B wr g m cap (pt p A q n) ∧ Chg (G1 g) (G1 g) w wr) := by
        refine ⟨?_, (Chg.of_below HO.out.2.1 _).trans hC⟩
        have := hP
        rw [List.take_of_length_le (by rw [HO.out.2.2.1]; exact Nat.le_refl _)] at this
        unfold pt
        rw [HO.out.2.2.2.2]
        exact this
      clear hP hC hq
      go_wp2
      go_end0
      exact ⟨rfl, hfin.out⟩
end Mun
