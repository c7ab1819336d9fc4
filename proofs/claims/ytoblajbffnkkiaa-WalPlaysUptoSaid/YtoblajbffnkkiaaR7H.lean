/- The reference of chapter 7: Open: whole records, and a torn one behind them. -/
import Derived.Test.YtoblajbffnkkiaaR7G
import Derived.Test.YtoblajbffnkkiaaMgF
set_option maxRecDepth 100000
set_option linter.unusedVariables false
set_option linter.unusedSimpArgs false
namespace Mun
open Go Go.RowKit
open Go.Proofs

/-- a cut at the end, its room cut too -/
theorem slice3_to {F : Foot} {w : World} {a : Option Addr} {n c : Nat} {l : List UInt8} (h : RdB F w (.slice a n c) l) (hi : Nat) (h2 : hi ≤ l.length) :
    ∃ a1, (∀ W, (Instr.sliceAt 23 (.slice a n c) none (some (.int .i64 hi)) (some (.int .i64 hi))).run Try.prog W = .ok (.slice a1 hi hi) W) ∧
      RdB F w (.slice a1 hi hi) (l.take hi) := by
  obtain ⟨h0, a', c', hv, hc1, hc2, hnil, h4⟩ := h
  injection hv with e1 e2 e3
  subst e1 e2 e3
  refine ⟨if hi = 0 then a else a.map (·.add 0), fun W => ?_, ?_⟩
  · obtain ⟨i, hi', hz, hs1, hs2⟩ := info_of info_u8
    have he : Try.prog.elem 23 = 5 := by kernel_rfl
    have ht : Try.prog.underlying 23 = some (.slice (Try.prog.elem 23)) := by rw [he]; exact Try.underlying23
    rw [run_sliceAt_slice _ _ _ _ _ _ ht, run_slice_hm _ _ _ _ _ ht _ _ _ _ (by omega) (by omega) (by omega), he]
    simp [Go.sizeOf, typeInfo, hi', hs1, sliced]
  · have hlen : (l.take hi).length = hi := by rw [List.length_take]; omega
    refine ⟨by rw [hlen, bv_length, hlen]; omega, _, _, by rw [hlen], by omega, by omega, ?_, ?_⟩
    · intro hn
      split at hn
      · omega
      · cases a with
        | none => have := hnil rfl; omega
        | some _ => simp at hn
    · intro hp
      rw [hlen] at hp
      obtain ⟨g, off, cur, e, fr, ha, hg, hh, hx⟩ := h4 (by omega)
      subst ha
      refine ⟨g, off, cur, e, fr, ?_, hg, hh, ?_⟩
      · rw [if_neg (by omega)]
        simp [Option.map_some, addr_add]
      · have e1 : bv (l.take hi) = (bv l).take hi := by simp [bv, List.map_take]
        rw [hlen, e1, ← hx, List.take_take]
        congr 1
        omega

/-- a torn record -/
def TornT (tail : List UInt8) : Prop := tail ≠ [] → ∃ (r : PR) (lsn k : Nat), k < recLen r ∧ tail = (recB r lsn).take k ∧ (bodyR r).length ≤ 1048576

/-- what Open needs of the records -/
structure LM.Wg (m : LM) : Prop where
  recs : ∀ r ∈ m.recs, RecOk r
  len : lenL m.recs ≤ 16777216
  base : m.base < 4611686018427387904
def LM.upto (m : LM) (A : Nat) : LM := ⟨m.base, m.recs, A, m.check⟩
def OpnOut (F : Foot) (w : World) (m : LM) (room : Nat) (e : Ending) (w' : World) : Prop :=
  ∃ bv, e = .returned (.agg (rlC (m.upto (lenL m.recs)) bv room)) ∧ RdB F w' bv m.bytes ∧ Below w.heap.size w w'

/-- within Open's loop -/
structure OpL (w wr : World) (m : LM) (bv : Value) (room j : Nat) : Prop where
  bl : Below w.heap.size w wr
  k1 : wr.heap[w.heap.size]? = some (.cells (rlC m bv room) 59 (0, 0))
  k2 : wr.heap[w.heap.size + 1]? = some (.cells #[.int .u64 0, .int .u64 0, .slice none 0 0, .int .i64 0, .int .i64 0] 59 (0, 0))
  le : j ≤ m.recs.length
theorem OpL.below {w wr w' : World} {m : LM} {bv : Value} {room j : Nat} (h : OpL w wr m bv room j) (hb : Below wr.heap.size wr w') : OpL w w' m bv room j :=
  ⟨h.bl.trans (hb.mono h.bl.size), (hb.block _ (lt_of_block h.k1)).trans h.k1, (hb.block _ (lt_of_block h.k2)).trans h.k2, h.le⟩

set_option maxHeartbeats 8000000 in
theorem r7open {F : Foot} (w : World) (bv : Value) (m : LM) (room : Nat) (tail : List UInt8) (h : RdB F w bv (m.bytes ++ tail)) (hw : m.Wg) (ht : TornT tail) (hl : lenL m.recs + tail.length ≤ 16777216) :
    Calls Try.prog 31 #[.agg (rlC m bv room)] w (OpnOut F w m room) := by
  obtain ⟨ba, bn, bc, rfl, HN, -⟩ := h.formN
  have hbl : m.bytes.length = lenL m.recs := encL_length _ _
  have hbn : bn = lenL m.recs + tail.length := by rw [HN.out, List.length_append, hbl]
  obtain ⟨wb, hwb⟩ : ∃ wb, (w.alloc (.cells (rlC m (.slice ba bn bc) room) 59)).alloc (.cells #[.int .u64 0, .int .u64 0, .slice none 0 0, .int .i64 0, .int .i64 0] 59) = wb := ⟨_, rfl⟩
  have hbb : Below w.heap.size w wb := by rw [← hwb]; exact below_more (below_more (Below.refl _ _) _) _
  have k1 : wb.heap[w.heap.size]? = some (.cells (rlC m (.slice ba bn bc) room) 59 (0, 0)) := by
    rw [← hwb, heap_alloc_old _ _ (by rw [World.size_alloc]; omega)]; exact heap_alloc_new w _
  have k2 : wb.heap[w.heap.size + 1]? = some (.cells #[.int .u64 0, .int .u64 0, .slice none 0 0, .int .i64 0, .int .i64 0] 59 (0, 0)) := by
    rw [← hwb, show w.heap.size + 1 = (w.alloc (.cells (rlC m (.slice ba bn bc) room) 59)).heap.size by rw [World.size_alloc]]; exact heap_alloc_new _ _
  have hR : OpL w wb m (.slice ba bn bc) room 0 := ⟨hbb, k1, k2, Nat.zero_le _⟩
  obtain ⟨a1, hsl, hrd⟩ := slice3_to h (lenL m.recs) (by rw [List.length_append, hbl]; omega)
  rw [List.take_left' hbl] at hrd
  have HSL := Lib.hid hsl
  have HRD := Lib.hid hrd
  have HR := Lib.hid hR
  have HV := Lib.hid (And.intro h (And.intro hw (And.intro ht (And.intro hl (And.intro hbl hbn)))))
  have hbi : (bn : Int) ≤ 16777216 := by omega
  have hb0 : (0 : Int) ≤ (bn : Int) := by omega
  clear h hw ht hl hbl hbn hbb k1 k2 hR hsl hrd
  go_enter Try.func31, Try.ntmps31
  go_wp2_with fail
  try rw [hwb]
  clear hwb
  go_loopw [3, 4, 5, 6] (fun ai _ _ _ wr => ∃ (j A : Nat), ai = .int .i64 A ∧ m.off j = A ∧ OpL w wr m (.slice ba bn bc) room j) (fun ai _ _ _ _ => bn - (intOf ai).toNat)
  case atStart => exact ⟨0, 0, rfl, rfl, HR.out⟩
  case round =>
    obtain ⟨j, A, rfl, hA, hL⟩ := hrel
    obtain ⟨z0, -, z2, -, -⟩ := box5 hL.k1
    have hA0 : (0 : Int) ≤ (A : Int) := by omega
    obtain ⟨ln, hln⟩ : ∃ ln, m.base + A = ln := ⟨_, rfl⟩
    have hb62 := HV.out.2.1.base
    have hl24 := HV.out.2.1.len
    have hAl : A ≤ lenL m.recs := by rw [← hA]; exact lenL_take_le _ _
    have v1 : IntKind.u64.wrap (A : Int) = (A : Int) := wrap_u64_nat _ (by omega)
    have v2 : IntKind.u64.wrap ((m.base : Int) + (A : Int)) = (ln : Int) := by
      rw [← hln]
      have := wrap_u64_nat (m.base + A) (by omega)
      push_cast at this ⊢
      exact this
    rcases Nat.lt_or_ge j m.recs.length with hlt | hge
    · have hAl : A < lenL m.recs := by rw [← hA]; exact m.off_lt hlt
      have hbn := HV.out.2.2.2.2.2
      have hAn : (A : Int) < (bn : Int) := by omega
      have hok : RecOk m.recs[j] := HV.out.2.1.recs _ (List.getElem_mem hlt)
      have hdr : (m.bytes ++ tail).drop A = recB m.recs[j] (m.base + A) ++ (encL (m.base + m.off (j + 1)) (m.recs.drop (j + 1)) ++ tail) := by
        rw [List.drop_append_of_le_length (by rw [HV.out.2.2.2.2.1]; omega), ← List.append_assoc]
        congr 1
        rw [← hA]
        exact encL_drop m.recs m.base j hlt
      have hsu := m.off_succ hlt
      rw [hA] at hsu
      obtain ⟨r, hr⟩ : ∃ r, m.recs[j] = r := ⟨_, rfl⟩
      rw [hr] at hok hdr hsu
      clear hr
      obtain ⟨nx, hnx⟩ : ∃ nx, A + recLen r = nx := ⟨_, rfl⟩
      have hnl : nx ≤ bn := by
        have h9 := lenL_take_le m.recs (j + 1)
        have h8 : m.off (j + 1) = lenL (m.recs.take (j + 1)) := rfl
        omega
      rw [hln] at hdr
      have hby := r7body_yes wr (.slice ba bn bc) (m.bytes ++ tail) A r ln _ (HV.out.1.below hL.bl) hdr hok (by omega) (by rw [List.length_append, HV.out.2.2.2.2.1]; have := HV.out.2.2.2.1; omega)
      rw [hnx] at hby
      have hAx : A < nx := by have := recLen_pos r; omega
      have HBY := Lib.hid hby
      have HJ := Lib.hid (And.intro hL (And.intro hlt (And.intro hsu (And.intro hnx (And.intro hnl hAx)))))
      clear hL hlt hA hln hsu hnx hnl hby hdr hok hb62 hl24 hAl hbn hAx
      go_wp2_with fail
      refine HBY.out.mono ?_
      rintro e w2 ⟨x, rfl, hrec, hb2⟩
      obtain ⟨da, dn, dc, ca, cn, cc, e1, e2, -⟩ := hrec.open
      unfold rval
      rw [e1, e2]
      have hL2 := HJ.out.1.below hb2
      obtain ⟨w3, hw3⟩ : ∃ w3, w2.alloc (.cells #[.int .i64 r.kind, .int .u64 r.tx, .int .u64 r.prev, .int .u64 r.next, .slice da dn dc, .slice ca cn cc] 26) = w3 := ⟨_, rfl⟩
      have hb3 : Below w2.heap.size w2 w3 := by rw [← hw3]; exact (Below.refl _ _).alloc (Nat.le_refl _) _
      have hL3 := hL2.below hb3
      have HL3 := Lib.hid hL3
      have hnu := HJ.out.2.2.2.2.1
      have hni : (nx : Int) ≤ 16777216 := by omega
      have hn0 : (0 : Int) ≤ (nx : Int) := by omega
      clear hrec hb2 e1 e2 hL2 hb3 hL3 HBY hnu z0 z2
      go_wp2_with fail
      clear hw3 v1 v2
      go_roundw
      case rel => exact ⟨j + 1, nx, rfl, by rw [HJ.out.2.2.1, HJ.out.2.2.2.1], HL3.out.bl, HL3.out.k1, HL3.out.k2, HJ.out.2.1⟩
      case measure => have := HJ.out.2.2.2.2; simp [intOf]; omega
    · have hjj : j = m.recs.length := by have := hL.le; omega
      have hAA : A = lenL m.recs := by rw [← hA, hjj, LM.off_len]
      rw [← hAA] at HSL HRD
      have HLEN := Lib.hid hAA
      by_cases htl : tail = []
      · have hAb : A = bn := by have := HV.out.2.2.2.2.2; rw [htl, List.length_nil] at this; omega
        have hAn : ¬ ((A : Int) < (bn : Int)) := by omega
        have hAi : (A : Int) ≤ (bn : Int) := by omega
        obtain ⟨W, hW⟩ : ∃ W, W = wr := ⟨_, rfl⟩
        rw [← hW] at hL z0 z2 ⊢
        clear hW
        have k1 := hL.k1
        have k2 := hL.k2
        obtain ⟨w4, hw4⟩ : ∃ w4, W.setCell ⟨w.heap.size, 2, none⟩ (.slice a1 A A) = w4 := ⟨_, rfl⟩
        obtain ⟨w5, hw5⟩ : ∃ w5, w4.setCell ⟨w.heap.size, 3, none⟩ (.int .i64 A) = w5 := ⟨_, rfl⟩
        have k4 : w4.heap[w.heap.size]? = some (.cells (rlC m (.slice a1 A A) room) 59 (0, 0)) := by rw [← hw4]; exact block_setCell k1 _
        have k5 : w5.heap[w.heap.size]? = some (.cells (rlC (m.upto A) (.slice a1 A A) room) 59 (0, 0)) := by rw [← hw5]; exact block_setCell k4 _
        have ho5 : ∀ q, q ≠ w.heap.size → w5.heap[q]? = W.heap[q]? := fun q hq => by rw [← hw5, block_setCell_ne _ hq, ← hw4, block_setCell_ne _ hq]
        have k52 := (ho5 (w.heap.size + 1) (by omega)).trans k2
        obtain ⟨w6, hw6⟩ : ∃ w6, w5.setRow (w.heap.size + 1) (rlC (m.upto A) (.slice a1 A A) room) = w6 := ⟨_, rfl⟩
        have k6 : w6.heap[w.heap.size + 1]? = some (.cells (rlC (m.upto A) (.slice a1 A A) room) 59 (0, 0)) := by rw [← hw6]; exact setRow_blk k52
        have hb6 : Below w.heap.size w w6 := by
          have h1 := hL.bl
          refine ⟨by rw [← hw6, ← hw5, ← hw4]; exact h1.os, by rw [← hw6, ← hw5, ← hw4]; exact h1.tape, by rw [← hw6, ← hw5, ← hw4]; exact h1.output, by rw [← hw6, ← hw5, ← hw4]; simpa [World.setRow, World.setCell] using h1.size, fun q hq => ?_⟩
          rw [← hw6, setRow_other (by omega)]
          exact (ho5 q (by omega)).trans (h1.block q hq)
        have c2 : W.cell? ⟨w.heap.size, 2, none⟩ = some (.slice ba bn bc) := cell_of_row _ _ 2 _ _ _ k1
        have f2 : W.frozen? ⟨w.heap.size, 2, none⟩ = false := by simp [World.frozen?, k1]
        have c3 : w4.cell? ⟨w.heap.size, 3, none⟩ = some (.int .i64 m.forced) := cell_of_row _ _ 3 _ _ _ k4
        have f3 : w4.frozen? ⟨w.heap.size, 3, none⟩ = false := by simp [World.frozen?, k4]
        have hsl := HSL.out
        have K5 := Lib.hid k5
        have K52 := Lib.hid k52
        have K6 := Lib.hid k6
        have HB6 := Lib.hid hb6
        have h1c := rlC_one (m.upto A) a1 A A room
        have H1C := Lib.hid h1c
        clear k1 k2 k4 k5 ho5 k52 k6 hb6 h1c hL hA hln hb62 hl24 hAl hge hjj hAA hAb htl
        go_wp2_with (first | (refine wpList_load_row rfl _ _ rfl w.heap.size rfl _ _ (0, 0) _ K5.out Try.underlying59 rfl infoRL ?_) | (refine wpList_store_row rfl _ _ _ rfl (w.heap.size + 1) (rlC (m.upto A) (.slice a1 A A) room) rfl rfl _ _ K52.out infoRL rfl H1C.out ?_; rw [hw6]) | fail)
        obtain ⟨q0, q1, q2, q3, q4⟩ := box5 K6.out
        refine bodyPost_ret (by simp [results, Try.results31, go_sem, q0, q1, q2, q3, q4]; try rfl) rfl ?_
        exact ⟨.slice a1 A A, by rw [← HLEN.out]; rfl, HRD.out.below HB6.out, HB6.out⟩
      · obtain ⟨r, lsn, k, hk, htk, hbig⟩ := HV.out.2.2.1 htl
        have hpos : 0 < tail.length := by cases tail with | nil => exact absurd rfl htl | cons _ _ => simp
        have hbn := HV.out.2.2.2.2.2
        have hAn : (A : Int) < (bn : Int) := by omega
        have hby := r7body_cut wr (.slice ba bn bc) (m.bytes ++ tail) A r lsn k m.bytes (HV.out.1.below hL.bl) (by rw [htk]) (by rw [HV.out.2.2.2.2.1]; exact hAA) hk hbig (by rw [List.length_append, HV.out.2.2.2.2.1]; have := HV.out.2.2.2.1; omega) ln
        have hAi : (A : Int) ≤ (bn : Int) := by omega
        have HBY := Lib.hid hby
        have HL := Lib.hid hL
        clear hL hA hln hby hb62 hl24 hAl hbn hAA hge hjj hk htk hbig hpos htl
        go_wp2_with fail
        refine HBY.out.mono ?_
        rintro e w2 ⟨rfl, hb2⟩
        unfold noR
        have hL2 := HL.out.below hb2
        obtain ⟨W, hw3⟩ : ∃ w3, w2.alloc (.cells #[.int .i64 0, .int .u64 0, .int .u64 0, .int .u64 0, .slice none 0 0, .slice none 0 0] 26) = w3 := ⟨_, rfl⟩
        have hb3 : Below w2.heap.size w2 W := by rw [← hw3]; exact (Below.refl _ _).alloc (Nat.le_refl _) _
        have hL3 := hL2.below hb3
        obtain ⟨y0, -, y2, -, -⟩ := box5 hL3.k1
        have HW3 := Lib.hid hw3
        clear hb2 hL2 hb3 HBY z0 z2 hw3
        have k1 := hL3.k1
        have k2 := hL3.k2
        obtain ⟨w4, hw4⟩ : ∃ w4, W.setCell ⟨w.heap.size, 2, none⟩ (.slice a1 A A) = w4 := ⟨_, rfl⟩
        obtain ⟨w5, hw5⟩ : ∃ w5, w4.setCell ⟨w.heap.size, 3, none⟩ (.int .i64 A) = w5 := ⟨_, rfl⟩
        have k4 : w4.heap[w.heap.size]? = some (.cells (rlC m (.slice a1 A A) room) 59 (0, 0)) := by rw [← hw4]; exact block_setCell k1 _
        have k5 : w5.heap[w.heap.size]? = some (.cells (rlC (m.upto A) (.slice a1 A A) room) 59 (0, 0)) := by rw [← hw5]; exact block_setCell k4 _
        have ho5 : ∀ q, q ≠ w.heap.size → w5.heap[q]? = W.heap[q]? := fun q hq => by rw [← hw5, block_setCell_ne _ hq, ← hw4, block_setCell_ne _ hq]
        have k52 := (ho5 (w.heap.size + 1) (by omega)).trans k2
        obtain ⟨w6, hw6⟩ : ∃ w6, w5.setRow (w.heap.size + 1) (rlC (m.upto A) (.slice a1 A A) room) = w6 := ⟨_, rfl⟩
        have k6 : w6.heap[w.heap.size + 1]? = some (.cells (rlC (m.upto A) (.slice a1 A A) room) 59 (0, 0)) := by rw [← hw6]; exact setRow_blk k52
        have hb6 : Below w.heap.size w w6 := by
          have h1 := hL3.bl
          refine ⟨by rw [← hw6, ← hw5, ← hw4]; exact h1.os, by rw [← hw6, ← hw5, ← hw4]; exact h1.tape, by rw [← hw6, ← hw5, ← hw4]; exact h1.output, by rw [← hw6, ← hw5, ← hw4]; simpa [World.setRow, World.setCell] using h1.size, fun q hq => ?_⟩
          rw [← hw6, setRow_other (by omega)]
          exact (ho5 q (by omega)).trans (h1.block q hq)
        have c2 : W.cell? ⟨w.heap.size, 2, none⟩ = some (.slice ba bn bc) := cell_of_row _ _ 2 _ _ _ k1
        have f2 : W.frozen? ⟨w.heap.size, 2, none⟩ = false := by simp [World.frozen?, k1]
        have c3 : w4.cell? ⟨w.heap.size, 3, none⟩ = some (.int .i64 m.forced) := cell_of_row _ _ 3 _ _ _ k4
        have f3 : w4.frozen? ⟨w.heap.size, 3, none⟩ = false := by simp [World.frozen?, k4]
        have hsl := HSL.out
        have K5 := Lib.hid k5
        have K52 := Lib.hid k52
        have K6 := Lib.hid k6
        have HB6 := Lib.hid hb6
        have h1c := rlC_one (m.upto A) a1 A A room
        have H1C := Lib.hid h1c
        clear k1 k2 k4 k5 ho5 k52 k6 hb6 h1c hL3
        go_upto_region 6 with fail
        rw [HW3.out]
        go_wp2_with (first | (refine wpList_load_row rfl _ _ rfl w.heap.size rfl _ _ (0, 0) _ K5.out Try.underlying59 rfl infoRL ?_) | (refine wpList_store_row rfl _ _ _ rfl (w.heap.size + 1) (rlC (m.upto A) (.slice a1 A A) room) rfl rfl _ _ K52.out infoRL rfl H1C.out ?_; rw [hw6]) | fail)
        obtain ⟨q0, q1, q2, q3, q4⟩ := box5 K6.out
        refine bodyPost_ret (by simp [results, Try.results31, go_sem, q0, q1, q2, q3, q4]; try rfl) rfl ?_
        exact ⟨.slice a1 A A, by rw [← HLEN.out]; rfl, HRD.out.below HB6.out, HB6.out⟩
end Mun
