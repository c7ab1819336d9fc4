/- The reference of chapter 7: Cut, Check. -/
import Derived.Test.YtoblajbffnkkiaaR7I
import Derived.Test.YtoblajbffnkkiaaMgG
set_option maxRecDepth 100000
set_option linter.unusedVariables false
set_option linter.unusedSimpArgs false
namespace Mun
open Go Go.RowKit
open Go.Proofs

/-- what Read tells, whatever record it is -/
def RdU (w : World) (m : LM) (lsn : Nat) (e : Ending) (w' : World) : Prop :=
  ∃ (a0 a1 a2 a3 : Int) (da : Option Addr) (dn dc : Nat) (ca : Option Addr) (cn cc : Nat) (n k : Int), e = .returned (.tuple #[.agg #[.int .i64 a0, .int .u64 a1, .int .u64 a2, .int .u64 a3, .slice da dn dc, .slice ca cn cc], .int .u64 n, .int .i64 k]) ∧ Below w.heap.size w w' ∧
    ((k = 17 ∧ lsn = m.fin) ∨ (k = 0 ∧ ∃ i, i < m.recs.length ∧ m.base + m.off i = lsn) ∨ (k = 1 ∧ lsn ≠ m.fin ∧ NoRec m lsn))
theorem RdOut.u {w w' : World} {m : LM} {lsn : Nat} {e : Ending} (h : RdOut w m lsn e w') : RdU w m lsn e w' := by
  rcases h with ⟨h1, rfl, hb⟩ | ⟨i, hi, h1, x, rfl, hrec, hb⟩ | ⟨h1, h2, rfl, hb⟩
  · exact ⟨_, _, _, _, _, _, _, _, _, _, _, _, rfl, hb, .inl ⟨rfl, h1⟩⟩
  · obtain ⟨da, dn, dc, ca, cn, cc, e1, e2, -⟩ := hrec.open
    refine ⟨_, _, _, _, da, dn, dc, ca, cn, cc, _, _, by unfold rval; rw [e1, e2], hb, .inr (.inl ⟨rfl, i, hi, h1⟩)⟩
  · exact ⟨_, _, _, _, _, _, _, _, _, _, _, _, rfl, hb, .inr (.inr ⟨rfl, h1, h2⟩)⟩

def CanCut (m : LM) (lsn i : Nat) : Prop := i ≤ m.recs.length ∧ m.base + m.off i = lsn ∧ m.off i ≤ m.forced ∧ (m.check = 0 ∨ lsn ≤ m.check)
def NoCut (m : LM) (lsn : Nat) : Prop := (lsn ≠ m.fin ∧ NoRec m lsn) ∨ ∃ i, i ≤ m.recs.length ∧ m.base + m.off i = lsn ∧ (m.forced < m.off i ∨ (0 < m.check ∧ m.check < lsn))
def RCutOut (F : Foot) (w : World) (m : LM) (bv : Value) (room lsn : Nat) (e : Ending) (w' : World) : Prop :=
  (NoCut m lsn ∧ e = .returned (.tuple #[.agg (rlC m bv room), .int .i64 1]) ∧ Below w.heap.size w w') ∨
  (∃ i, CanCut m lsn i ∧ ∃ bv', e = .returned (.tuple #[.agg (rlC (m.cut i) bv' room), .int .i64 0]) ∧ RdB F w' bv' (m.cut i).bytes ∧ Below w.heap.size w w')
def CanChk (m : LM) (lsn : Nat) : Prop := (∃ i, i < m.recs.length ∧ m.base + m.off i = lsn) ∧ lsn < m.base + m.forced
def LM.chk (m : LM) (c : Nat) : LM := ⟨m.base, m.recs, m.forced, c⟩
def RChkOut (w : World) (m : LM) (bv : Value) (room lsn : Nat) (e : Ending) (w' : World) : Prop :=
  (¬ CanChk m lsn ∧ e = .returned (.tuple #[.agg (rlC m bv room), .int .i64 1]) ∧ Below w.heap.size w w') ∨
  (CanChk m lsn ∧ e = .returned (.tuple #[.agg (rlC (m.chk lsn) bv room), .int .i64 0]) ∧ Below w.heap.size w w')

/-- within Cut and Check -/
structure CuL (w wr : World) (m : LM) (bv : Value) (room : Nat) : Prop where
  bl : Below w.heap.size w wr
  k2 : wr.heap[w.heap.size]? = some (.cells (rlC m bv room) 59 (0, 0))
  k4 : wr.heap[w.heap.size + 1]? = some (.cells #[.int .u64 0, .int .u64 0, .slice none 0 0, .int .i64 0, .int .i64 0] 59 (0, 0))
theorem CuL.below {w wr w' : World} {m : LM} {bv : Value} {room : Nat} (h : CuL w wr m bv room) (hb : Below wr.heap.size wr w') : CuL w w' m bv room :=
  ⟨h.bl.trans (hb.mono h.bl.size), (hb.block _ (lt_of_block h.k2)).trans h.k2, (hb.block _ (lt_of_block h.k4)).trans h.k4⟩

set_option maxHeartbeats 2000000 in
theorem r7cut2 {F : Foot} (w : World) (bv : Value) (m : LM) (room lsn : Nat) (h : RLv F w m bv) (hl : lsn < 18446744073709551616) :
    Calls Try.prog 27 #[.agg (rlC m bv room), .int .u64 lsn] w (RCutOut F w m bv room lsn) := by
  obtain ⟨ba, bn, bc, rfl, HN⟩ := h.form
  have hrd := fun (W : World) (hW : Below w.heap.size w W) => r7read W (.slice ba bn bc) m room lsn (h.below hW) hl
  obtain ⟨wb, hwb⟩ : ∃ wb, (w.alloc (.cells (rlC m (.slice ba bn bc) room) 59)).alloc (.cells #[.int .u64 0, .int .u64 0, .slice none 0 0, .int .i64 0, .int .i64 0] 59) = wb := ⟨_, rfl⟩
  have hbb : Below w.heap.size w wb := by rw [← hwb]; exact below_more (below_more (Below.refl _ _) _) _
  have hR : CuL w wb m (.slice ba bn bc) room := by
    refine ⟨hbb, ?_, ?_⟩
    · rw [← hwb, heap_alloc_old _ _ (by rw [World.size_alloc]; omega)]; exact heap_alloc_new w _
    · rw [← hwb, show w.heap.size + 1 = (w.alloc (.cells (rlC m (.slice ba bn bc) room) 59)).heap.size by rw [World.size_alloc]]; exact heap_alloc_new _ _
  obtain ⟨fo, hfo⟩ : ∃ fo, m.base + m.forced = fo := ⟨_, rfl⟩
  have hw1 := h.wf.base
  have hw2 := h.wf.len
  have hw3 := h.wf.forced
  have hw4 := h.wf.check
  have v1 : IntKind.u64.wrap (m.forced : Int) = (m.forced : Int) := wrap_u64_nat _ (by omega)
  have v2 : IntKind.u64.wrap ((m.base : Int) + (m.forced : Int)) = (fo : Int) := by
    rw [← hfo]
    have := wrap_u64_nat (m.base + m.forced) (by omega)
    push_cast at this ⊢
    exact this
  have HRD := Lib.hid hrd
  have HR := Lib.hid hR
  have HW := Lib.hid hwb
  have HV := Lib.hid (And.intro h (And.intro hl (And.intro hfo (And.intro hw1 (And.intro hw2 hw3)))))
  clear h hrd hwb hbb hR hl hfo hw1 hw2 hw3 hw4
  go_enter Try.func27, Try.ntmps27
  go_wp2_with (first | (rw [HW.out]; refine wpList_load_row rfl _ _ rfl w.heap.size rfl _ _ (0, 0) _ HR.out.k2 Try.underlying59 rfl infoRL ?_) | fail)
  refine (HRD.out _ HR.out.bl).mono ?_
  rintro e w1 hrd1
  obtain ⟨a0, a1, a2, a3, da, dn, dc, ca, cn, cc, n, k, rfl, hb1, hk⟩ := hrd1.u
  have hR1 := HR.out.below hb1
  obtain ⟨w2, hw2⟩ : ∃ w2, w1.alloc (.cells #[.int .i64 a0, .int .u64 a1, .int .u64 a2, .int .u64 a3, .slice da dn dc, .slice ca cn cc] 26) = w2 := ⟨_, rfl⟩
  have hb2 : Below w1.heap.size w1 w2 := by rw [← hw2]; exact (Below.refl _ _).alloc (Nat.le_refl _) _
  have hR2 := hR1.below hb2
  have HW2 := Lib.hid hw2
  have HR2 := Lib.hid hR2
  have HK := Lib.hid hk
  obtain ⟨z0, z1, z2, z3, -⟩ := box5 hR2.k2
  obtain ⟨w4, hw4⟩ : ∃ w4, w2.setRow (w.heap.size + 1) (rlC m (.slice ba bn bc) room) = w4 := ⟨_, rfl⟩
  have k44 : w4.heap[w.heap.size + 1]? = some (.cells (rlC m (.slice ba bn bc) room) 59 (0, 0)) := by rw [← hw4]; exact setRow_blk hR2.k4
  have hb4 : Below w.heap.size w w4 := by
    have h1 := hR2.bl
    exact ⟨by rw [← hw4]; exact h1.os, by rw [← hw4]; exact h1.tape, by rw [← hw4]; exact h1.output, by rw [← hw4]; simpa [World.setRow] using h1.size, fun k hk => by rw [← hw4, setRow_other (by omega)]; exact h1.block k hk⟩
  have K44 := Lib.hid k44
  have HB4 := Lib.hid hb4
  have h1c := rlC_one m ba bn bc room
  have H1C := Lib.hid h1c
  clear k44 hb4 h1c hrd1 hb1 hR1 hb2 hR2 hw2 HRD HR HW hk
  go_upto_region 2 with fail
  rw [HW2.out]
  clear HW2
  by_cases hk1 : k = 1
  · subst hk1
    have hno : lsn ≠ m.fin ∧ NoRec m lsn := by
      rcases HK.out with ⟨h1, -⟩ | ⟨h1, -⟩ | ⟨-, h1⟩
      · exact absurd h1 (by decide)
      · exact absurd h1 (by decide)
      · exact h1
    have HNO := Lib.hid hno
    clear hno
    go_upto_region 3 with fail
    go_wp2_with (first | (refine wpList_load_row rfl _ _ rfl w.heap.size rfl _ _ (0, 0) _ HR2.out.k2 Try.underlying59 rfl infoRL ?_) | (refine wpList_store_row rfl _ _ _ rfl (w.heap.size + 1) (rlC m (.slice ba bn bc) room) rfl rfl _ _ HR2.out.k4 infoRL rfl H1C.out ?_; rw [hw4]) | fail)
    obtain ⟨q0, q1, q2, q3, q4⟩ := box5 K44.out
    refine bodyPost_ret (by simp [results, Try.results27, go_sem, q0, q1, q2, q3, q4]; try rfl) rfl ?_
    exact .inl ⟨.inl HNO.out, rfl, HB4.out⟩
  · have hi : ∃ i, i ≤ m.recs.length ∧ m.base + m.off i = lsn := by
      rcases HK.out with ⟨-, h1⟩ | ⟨-, i, h1, h2⟩ | ⟨h1, -⟩
      · exact ⟨m.recs.length, Nat.le_refl _, by rw [LM.off_len, h1]; rfl⟩
      · exact ⟨i, Nat.le_of_lt h1, h2⟩
      · exact absurd h1 hk1
    obtain ⟨i, hil, hie⟩ := hi
    have hkk : k = 17 ∨ k = 0 := by
      rcases HK.out with ⟨h1, -⟩ | ⟨h1, -⟩ | ⟨h1, -⟩
      · exact .inl h1
      · exact .inr h1
      · exact absurd h1 hk1
    have p1 : (k != 0 && k != 17) = false := by rcases hkk with rfl | rfl <;> rfl
    have HIL := Lib.hid (And.intro hil hie)
    clear hk1 HK hil hie
    obtain ⟨hv1, hv2, hv3, hv4, hv5, hv6⟩ := HV.out
    by_cases hf : fo < lsn
    · have t1 : (fo : Int) < (lsn : Int) := by omega
      have HNO : Hid (m.forced < m.off i) := by have := HIL.out.2; show m.forced < m.off i; omega
      clear hf hv1 hv2 hv3 hv4 hv5 hv6
      rcases hkk with rfl | rfl
      · go_upto_region 3 with fail
        go_wp2_with (first | (refine wpList_load_row rfl _ _ rfl w.heap.size rfl _ _ (0, 0) _ HR2.out.k2 Try.underlying59 rfl infoRL ?_) | (refine wpList_store_row rfl _ _ _ rfl (w.heap.size + 1) (rlC m (.slice ba bn bc) room) rfl rfl _ _ HR2.out.k4 infoRL rfl H1C.out ?_; rw [hw4]) | fail)
        obtain ⟨q0, q1, q2, q3, q4⟩ := box5 K44.out
        refine bodyPost_ret (by simp [results, Try.results27, go_sem, q0, q1, q2, q3, q4]; try rfl) rfl ?_
        exact .inl ⟨.inr ⟨i, HIL.out.1, HIL.out.2, .inl HNO.out⟩, rfl, HB4.out⟩
      · go_upto_region 3 with fail
        go_wp2_with (first | (refine wpList_load_row rfl _ _ rfl w.heap.size rfl _ _ (0, 0) _ HR2.out.k2 Try.underlying59 rfl infoRL ?_) | (refine wpList_store_row rfl _ _ _ rfl (w.heap.size + 1) (rlC m (.slice ba bn bc) room) rfl rfl _ _ HR2.out.k4 infoRL rfl H1C.out ?_; rw [hw4]) | fail)
        obtain ⟨q0, q1, q2, q3, q4⟩ := box5 K44.out
        refine bodyPost_ret (by simp [results, Try.results27, go_sem, q0, q1, q2, q3, q4]; try rfl) rfl ?_
        exact .inl ⟨.inr ⟨i, HIL.out.1, HIL.out.2, .inl HNO.out⟩, rfl, HB4.out⟩
    · have t1 : ¬ ((fo : Int) < (lsn : Int)) := by omega
      have t1n : decide (fo < lsn) = false := decide_eq_false hf
      by_cases hc : 0 < m.check ∧ m.check < lsn
      · have t2 : (0 : Int) < (m.check : Int) := by omega
        have t3 : (m.check : Int) < (lsn : Int) := by omega
        have t2n : decide (0 < m.check) = true := decide_eq_true hc.1
        have t3n : decide (m.check < lsn) = true := decide_eq_true hc.2
        have HNO := Lib.hid hc
        clear hc hf hv1 hv2 hv3 hv4 hv5 hv6
        rcases hkk with rfl | rfl
        · go_upto_region 3 with fail
          go_wp2_with (first | (refine wpList_load_row rfl _ _ rfl w.heap.size rfl _ _ (0, 0) _ HR2.out.k2 Try.underlying59 rfl infoRL ?_) | (refine wpList_store_row rfl _ _ _ rfl (w.heap.size + 1) (rlC m (.slice ba bn bc) room) rfl rfl _ _ HR2.out.k4 infoRL rfl H1C.out ?_; rw [hw4]) | fail)
          obtain ⟨q0, q1, q2, q3, q4⟩ := box5 K44.out
          refine bodyPost_ret (by simp [results, Try.results27, go_sem, q0, q1, q2, q3, q4]; try rfl) rfl ?_
          exact .inl ⟨.inr ⟨i, HIL.out.1, HIL.out.2, .inr HNO.out⟩, rfl, HB4.out⟩
        · go_upto_region 3 with fail
          go_wp2_with (first | (refine wpList_load_row rfl _ _ rfl w.heap.size rfl _ _ (0, 0) _ HR2.out.k2 Try.underlying59 rfl infoRL ?_) | (refine wpList_store_row rfl _ _ _ rfl (w.heap.size + 1) (rlC m (.slice ba bn bc) room) rfl rfl _ _ HR2.out.k4 infoRL rfl H1C.out ?_; rw [hw4]) | fail)
          obtain ⟨q0, q1, q2, q3, q4⟩ := box5 K44.out
          refine bodyPost_ret (by simp [results, Try.results27, go_sem, q0, q1, q2, q3, q4]; try rfl) rfl ?_
          exact .inl ⟨.inr ⟨i, HIL.out.1, HIL.out.2, .inr HNO.out⟩, rfl, HB4.out⟩
      · have hcan : CanCut m lsn i := ⟨HIL.out.1, HIL.out.2, by have := HIL.out.2; omega, by omega⟩
        obtain ⟨o, ho⟩ : ∃ o, m.off i = o := ⟨_, rfl⟩
        have hof : o ≤ m.forced := by rw [← ho]; exact hcan.2.2.1
        have hqe : m.base + o = lsn := by rw [← ho]; exact hcan.2.1
        have hbn := HN.out
        have hrd2 := (hv1.below HR2.out.bl).rd
        have hml : m.bytes.length = bn := by rw [hbn]; exact encL_length _ _
        obtain ⟨c1a, c1c, hsl, hrd3⟩ := slice_bytes_from hrd2 o (by rw [hml]; omega)
        obtain ⟨bl, hbl⟩ : ∃ bl, bn - o = bl := ⟨_, rfl⟩
        rw [hbl] at hsl hrd3
        have u1 : IntKind.u64.wrap ((lsn : Int) - (m.base : Int)) = (o : Int) := by
          rw [show ((lsn : Int) - (m.base : Int)) = (o : Int) by omega]; exact wrap_u64_nat _ (by omega)
        have u2 : IntKind.i64.wrap (o : Int) = (o : Int) := by rw [IntKind.wrap_i64]; omega
        have g3 : IntKind.i64.wrap ((m.forced : Int) - (o : Int)) = (m.forced : Int) - (o : Int) := by rw [IntKind.wrap_i64]; omega
        have oi0 : (0 : Int) ≤ (o : Int) := by omega
        have oi1 : (o : Int) ≤ (bn : Int) := by omega
        have oif : (o : Int) ≤ (m.forced : Int) := by omega
        have ofi : (m.forced : Int) ≤ 16777216 := by omega
        obtain ⟨w5, hw5⟩ : ∃ w5, w2.setCell ⟨w.heap.size, 2, none⟩ (.slice c1a bl c1c) = w5 := ⟨_, rfl⟩
        have k5 : w5.heap[w.heap.size]? = some (.cells #[.int .u64 m.base, .int .u64 m.check, .slice c1a bl c1c, .int .i64 m.forced, .int .i64 room] 59 (0, 0)) := by rw [← hw5]; exact block_setCell HR2.out.k2 _
        obtain ⟨w6, hw6⟩ : ∃ w6, w5.setCell ⟨w.heap.size, 3, none⟩ (.int .i64 ((m.forced : Int) - (o : Int))) = w6 := ⟨_, rfl⟩
        have k6 : w6.heap[w.heap.size]? = some (.cells #[.int .u64 m.base, .int .u64 m.check, .slice c1a bl c1c, .int .i64 ((m.forced : Int) - (o : Int)), .int .i64 room] 59 (0, 0)) := by rw [← hw6]; exact block_setCell k5 _
        obtain ⟨w7, hw7⟩ : ∃ w7, w6.setCell ⟨w.heap.size, 0, none⟩ (.int .u64 lsn) = w7 := ⟨_, rfl⟩
        have e1 : rlC (m.cut i) (.slice c1a bl c1c) room = #[.int .u64 lsn, .int .u64 m.check, .slice c1a bl c1c, .int .i64 ((m.forced : Int) - (o : Int)), .int .i64 room] := by
          unfold rlC LM.cut
          dsimp only
          rw [ho, hqe, Int.ofNat_sub hof]
        have k7 : w7.heap[w.heap.size]? = some (.cells (rlC (m.cut i) (.slice c1a bl c1c) room) 59 (0, 0)) := by rw [e1, ← hw7]; exact block_setCell k6 _
        have ho7 : ∀ q, q ≠ w.heap.size → w7.heap[q]? = w2.heap[q]? := fun q hq => by rw [← hw7, block_setCell_ne _ hq, ← hw6, block_setCell_ne _ hq, ← hw5, block_setCell_ne _ hq]
        have k74 := (ho7 (w.heap.size + 1) (by omega)).trans HR2.out.k4
        obtain ⟨w8, hw8⟩ : ∃ w8, w7.setRow (w.heap.size + 1) (rlC (m.cut i) (.slice c1a bl c1c) room) = w8 := ⟨_, rfl⟩
        have k84 : w8.heap[w.heap.size + 1]? = some (.cells (rlC (m.cut i) (.slice c1a bl c1c) room) 59 (0, 0)) := by rw [← hw8]; exact setRow_blk k74
        have hb8 : Below w.heap.size w w8 := by
          have h1 := HR2.out.bl
          refine ⟨by rw [← hw8, ← hw7, ← hw6, ← hw5]; exact h1.os, by rw [← hw8, ← hw7, ← hw6, ← hw5]; exact h1.tape, by rw [← hw8, ← hw7, ← hw6, ← hw5]; exact h1.output, by rw [← hw8, ← hw7, ← hw6, ← hw5]; simpa [World.setRow, World.setCell] using h1.size, fun q hq => ?_⟩
          rw [← hw8, setRow_other (by omega)]
          exact (ho7 q (by omega)).trans (h1.block q hq)
        have hrd8 : RdB F w8 (.slice c1a bl c1c) (m.cut i).bytes := by
          obtain ⟨x1, x2, hsl9, hrd9⟩ := slice_bytes_from hv1.rd o (by rw [hml]; omega)
          rw [hbl] at hsl9 hrd9
          have ee := (hsl w).symm.trans (hsl9 w)
          injection ee with ee1
          injection ee1 with ee2 ee3 ee4
          subst ee2 ee4
          rw [LM.cut_bytes, ho]
          exact hrd9.below hb8
        have f2 : w2.frozen? ⟨w.heap.size, 2, none⟩ = false := by simp [World.frozen?, HR2.out.k2]
        have c5 : w5.cell? ⟨w.heap.size, 3, none⟩ = some (.int .i64 m.forced) := cell_of_row _ _ 3 _ _ _ k5
        have f5 : w5.frozen? ⟨w.heap.size, 3, none⟩ = false := by simp [World.frozen?, k5]
        have c6 : w6.cell? ⟨w.heap.size, 0, none⟩ = some (.int .u64 m.base) := cell_of_row _ _ 0 _ _ _ k6
        have f6 : w6.frozen? ⟨w.heap.size, 0, none⟩ = false := by simp [World.frozen?, k6]
        have h1c := rlC_one (m.cut i) c1a bl c1c room
        have H1D := Lib.hid h1c
        have K7 := Lib.hid k7
        have K74 := Lib.hid k74
        have K84 := Lib.hid k84
        have HX8 := Lib.hid (And.intro hcan (And.intro hrd8 hb8))
        have hc2 : m.check = 0 ∨ lsn ≤ m.check := hcan.2.2.2
        clear hcan ho hof hqe hbn hrd2 hml hrd3 hbl k5 k6 e1 k7 ho7 k74 k84 hb8 hrd8 h1c hw4 hf hv1 hv2 hv3 hv4 hv5 hv6 HB4 K44 H1C
        have w1' := v1
        rcases Nat.eq_zero_or_pos m.check with hc0 | hc0
        · rw [hc0] at z1
          clear hc hc2
          rcases hkk with rfl | rfl
          · go_upto_region 4 with fail
            go_wp2_with (first | (refine wpList_load_row rfl _ _ rfl w.heap.size rfl _ _ (0, 0) _ K7.out Try.underlying59 rfl infoRL ?_) | (refine wpList_store_row rfl _ _ _ rfl (w.heap.size + 1) (rlC (m.cut i) (.slice c1a bl c1c) room) rfl rfl _ _ K74.out infoRL rfl H1D.out ?_; rw [hw8]) | fail)
            obtain ⟨q0, q1, q2, q3, q4⟩ := box5 K84.out
            refine bodyPost_ret (by simp [results, Try.results27, go_sem, q0, q1, q2, q3, q4]; try rfl) rfl ?_
            exact .inr ⟨i, HX8.out.1, .slice c1a bl c1c, rfl, HX8.out.2.1, HX8.out.2.2⟩
          · go_upto_region 4 with fail
            go_wp2_with (first | (refine wpList_load_row rfl _ _ rfl w.heap.size rfl _ _ (0, 0) _ K7.out Try.underlying59 rfl infoRL ?_) | (refine wpList_store_row rfl _ _ _ rfl (w.heap.size + 1) (rlC (m.cut i) (.slice c1a bl c1c) room) rfl rfl _ _ K74.out infoRL rfl H1D.out ?_; rw [hw8]) | fail)
            obtain ⟨q0, q1, q2, q3, q4⟩ := box5 K84.out
            refine bodyPost_ret (by simp [results, Try.results27, go_sem, q0, q1, q2, q3, q4]; try rfl) rfl ?_
            exact .inr ⟨i, HX8.out.1, .slice c1a bl c1c, rfl, HX8.out.2.1, HX8.out.2.2⟩
        · have t2 : (0 : Int) < (m.check : Int) := by omega
          have t3 : ¬ ((m.check : Int) < (lsn : Int)) := by omega
          have t2n : decide (0 < m.check) = true := decide_eq_true hc0
          have t3n : decide (m.check < lsn) = false := decide_eq_false (by omega)
          clear hc hc2 hc0
          rcases hkk with rfl | rfl
          · go_upto_region 4 with fail
            go_wp2_with (first | (refine wpList_load_row rfl _ _ rfl w.heap.size rfl _ _ (0, 0) _ K7.out Try.underlying59 rfl infoRL ?_) | (refine wpList_store_row rfl _ _ _ rfl (w.heap.size + 1) (rlC (m.cut i) (.slice c1a bl c1c) room) rfl rfl _ _ K74.out infoRL rfl H1D.out ?_; rw [hw8]) | fail)
            obtain ⟨q0, q1, q2, q3, q4⟩ := box5 K84.out
            refine bodyPost_ret (by simp [results, Try.results27, go_sem, q0, q1, q2, q3, q4]; try rfl) rfl ?_
            exact .inr ⟨i, HX8.out.1, .slice c1a bl c1c, rfl, HX8.out.2.1, HX8.out.2.2⟩
          · go_upto_region 4 with fail
            go_wp2_with (first | (refine wpList_load_row rfl _ _ rfl w.heap.size rfl _ _ (0, 0) _ K7.out Try.underlying59 rfl infoRL ?_) | (refine wpList_store_row rfl _ _ _ rfl (w.heap.size + 1) (rlC (m.cut i) (.slice c1a bl c1c) room) rfl rfl _ _ K74.out infoRL rfl H1D.out ?_; rw [hw8]) | fail)
            obtain ⟨q0, q1, q2, q3, q4⟩ := box5 K84.out
            refine bodyPost_ret (by simp [results, Try.results27, go_sem, q0, q1, q2, q3, q4]; try rfl) rfl ?_
            exact .inr ⟨i, HX8.out.1, .slice c1a bl c1c, rfl, HX8.out.2.1, HX8.out.2.2⟩
end Mun
