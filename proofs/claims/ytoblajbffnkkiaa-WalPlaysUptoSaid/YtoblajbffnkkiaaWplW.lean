/- The walk of WalPlays. Printed by a program. -/
import Derived.Test.YtoblajbffnkkiaaW7U
import Derived.Test.YtoblajbffnkkiaaWdP
import Derived.Test.YtoblajbffnkkiaaMgF
import Derived.Test.YtoblajbffnkkiaaBits
import Derived.Deep.MidRow
set_option maxRecDepth 100000
set_option linter.unusedVariables false
set_option linter.unusedSimpArgs false
namespace Mun
open Go Go.RowKit
open Go.Proofs

theorem infoWD : (Try.prog.info? 61).map (·.size) = some 9 := by kernel_rfl

/-- the cells of a deed's box -/
theorem box9 {W : World} {b : Nat} {a0 a1 a2 a3 a4 a5 a6 a7 a8 : Value} {ty : TypeId} (h : W.heap[b]? = some (.cells #[a0, a1, a2, a3, a4, a5, a6, a7, a8] ty (0, 0))) :
    W.cell? ⟨b, 0, none⟩ = some a0 ∧ W.cell? ⟨b, 1, none⟩ = some a1 ∧ W.cell? ⟨b, 8, none⟩ = some a8 ∧ W.cell? ⟨b, 2, none⟩ = some a2 ∧ W.cell? ⟨b, 3, none⟩ = some a3 ∧ W.cell? ⟨b, 4, none⟩ = some a4 ∧ W.cell? ⟨b, 5, none⟩ = some a5 ∧ W.cell? ⟨b, 6, none⟩ = some a6 ∧ W.cell? ⟨b, 7, none⟩ = some a7 :=
  ⟨cell_of_row _ _ 0 _ _ _ h, cell_of_row _ _ 1 _ _ _ h, cell_of_row _ _ 8 _ _ _ h, cell_of_row _ _ 2 _ _ _ h, cell_of_row _ _ 3 _ _ _ h, cell_of_row _ _ 4 _ _ _ h, cell_of_row _ _ 5 _ _ _ h, cell_of_row _ _ 6 _ _ _ h, cell_of_row _ _ 7 _ _ _ h⟩

theorem WDeedsAt.at_ {F : Foot} {w : World} {v : Value} {l : List WDeed} (h : WDeedsAt F w v l) (i : Nat) (hi : i < l.length) : ∃ g off c, v = .slice (some ⟨g, off, none⟩) l.length c ∧ l.length ≤ c ∧ c ≤ maxLen ∧ w.rangeAt g (off + i * 9) l[i].cells := by
  obtain ⟨g, off, c, hv, h1, h2, h3, h4, h5⟩ := RdV.at_ h.row (by omega)
  refine ⟨g, off, c, hv, h1, h2, fun j u hu => ?_⟩
  have hj : j < 9 := by
    rcases Nat.lt_or_ge j 9 with h6 | h6
    · exact h6
    · rw [List.getElem?_eq_none (by simpa [WDeed.cells] using h6)] at hu; cases hu
  rw [Nat.add_assoc]
  exact h5 _ u (by rw [wdeeds_get l i j hi hj]; exact hu)

/-- the looks, at the law's state -/
theorem PlS.looks {w0 wr : World} {D L b size n : Nat} {G : Foot} {bw : Value} {dm : DM} {m : LM} (h : PlS w0 D L b G size n bw dm m wr) :
    Calls Try.prog 32 #[.pointer (some ⟨L, 0, none⟩), .agg (rlC m bw size)] wr fun e w' => e = .returned (.bool true) ∧ PlS w0 D L b G size n bw dm m w' := by
  obtain ⟨F, bv, sv, h1, -⟩ := h.mid.own
  refine (looks_true wr D L m bv sv bw size h1.mem ⟨RdV.keep h.mid.rl.rd (fun _ _ _ => rfl) (fun k _ h => absurd h (noF k)), h.mid.rl.wf⟩).mono ?_
  rintro e w' ⟨rfl, hb⟩
  exact ⟨rfl, h.below hb⟩

set_option maxHeartbeats 16000000 in
theorem wplays_any (w : World) (v : Value) (room : Int) (l : List WDeed) (hl : WDeedsAt NoF w v l) (hlen : l.length ≤ 1048575) :
    Calls Try.prog 8 #[.int .i64 room, v] w fun e w' => e = .returned (.bool true) ∧ Below w.heap.size w w' := by
  obtain ⟨va, vc, rfl, -⟩ := hl.row.form
  obtain ⟨s, hand, hs⟩ := and_4095 room
  have haw := awake_any w
  have HAW := Lib.hid haw
  have HL := Lib.hid (And.intro hl hlen)
  have hs2 : s ≤ 4095 := by omega
  have HS := Lib.hid hs2
  obtain ⟨n, hn⟩ : ∃ n, l.length = n := ⟨_, rfl⟩
  rw [hn]
  have HN := Lib.hid hn
  have hsi : (s : Int) ≤ 4095 := by omega
  have hs0 : (0 : Int) ≤ (s : Int) := by omega
  have hni : (n : Int) ≤ 1048575 := by omega
  have hn0 : (0 : Int) ≤ (n : Int) := by omega
  clear hl hlen haw hs hs2 hn
  go_enter Try.func8, Try.ntmps8
  go_wp2_with fail
  refine HAW.out.mono ?_
  rintro e w1 ⟨rfl, hb1⟩
  have HB1 := Lib.hid hb1
  have hf : Calls Try.prog 13 #[.int .i64 s] w1 (FreshOut w1 s) := fresh_any w1 s (by have := HS.out; omega)
  have HF := Lib.hid hf
  clear hb1 hf HAW
  go_wp2_with fail
  refine HF.out.mono ?_
  rintro e w2 ⟨D0, L0, F, bv, sv, rfl, hlog, hb2, hoF, hoE⟩
  obtain ⟨b, hbq⟩ : ∃ b, w2.heap.size = b := ⟨_, rfl⟩
  obtain ⟨w3, hw3⟩ : ∃ w3, w2.alloc (.cells #[.int .u64 1, .int .u64 0, .slice none 0 0, .int .i64 0, .int .i64 s] 59) = w3 := ⟨_, rfl⟩
  have hst : PlS w1 D0 L0 b NoF s 0 (.slice none 0 0) (DM.new 1 s) LM.new w3 := by
    have how : OwnG w1 D0 L0 (DM.new 1 s) LM.new NoF w2 := ⟨F, bv, sv, hlog, hb2, fun k hk => by
      rcases hk with h | h
      · exact hoF k h
      · exact hoE k h, fun k hk => absurd hk (noF k)⟩
    have hb3 : Below w2.heap.size w2 w3 := by rw [← hw3]; exact (Below.refl _ _).alloc (Nat.le_refl _) _
    have hs3 : w3.heap.size = w2.heap.size + 1 := by rw [← hw3, World.size_alloc]
    have hchg : Chg NoF (uf (fun k => k = b) NoF) w2 w3 := ⟨hb3.os, hb3.tape, hb3.output, hb3.size, fun k hk _ => hb3.block k hk, fun k hk => by
      rcases hk with e | e
      · exact .inr ⟨by omega, by omega⟩
      · exact absurd e (noF k)⟩
    refine ⟨⟨⟨rfl, rfl⟩, rfl, rfl, rfl, HS.out, rfl, .inl ⟨rfl, rfl, rfl⟩, Nat.le_refl _, by show 1 + 0 ≤ 1 + 0 * 4096; omega⟩, how.row hchg, ⟨RdB.nil _ _, LM.new_wf⟩, ?_, noF b⟩
    rw [← hw3, ← hbq]
    exact heap_alloc_new w2 _
  have HST := Lib.hid hst
  clear hst hlog hb2 hoF hoE HF
  go_wp2_with fail
  try rw [hw3]
  clear hw3 hbq
  go_loopw [6, 7, 9] (fun dv lv iv wr => ∃ (i D L : Nat) (G : Foot) (dm : DM) (m : LM) (bw : Value), iv = .int .i64 i ∧ i ≤ n ∧ dv = .pointer (some ⟨D, 0, none⟩) ∧ lv = .pointer (some ⟨L, 0, none⟩) ∧ PlS w1 D L b G s i bw dm m wr) (fun _ _ iv _ => n - (intOf iv).toNat)
  case atStart => exact ⟨0, D0, L0, _, _, _, _, rfl, Nat.zero_le _, rfl, rfl, HST.out⟩
  case round =>
    obtain ⟨i, D, L, G, dm, m, bw, rfl, hin, rfl, rfl, hS⟩ := hrel
    obtain ⟨ma, mn, mc, rfl, HMN⟩ := hS.mid.rl.form
    have hi0 : (0 : Int) ≤ (i : Int) := by omega
    rcases Nat.lt_or_ge i n with hlt | hge
    · have hli : i < l.length := by rw [HN.out]; exact hlt
      have hlr := (HL.out.1.below HB1.out).below hS.mid.own.below
      obtain ⟨g, off, c', hva, hlc', hcm', hrow⟩ := hlr.at_ i hli
      injection hva with e1 e2 e3
      subst e1 e3
      clear e2
      obtain ⟨x, hx⟩ : ∃ x, l[i] = x := ⟨_, rfl⟩
      have hxm : x ∈ l := by rw [← hx]; exact List.getElem_mem hli
      obtain ⟨hrec0, hvb0, hsz, hxl⟩ := (HL.out.1.below HB1.out).rd x hxm
      rw [hx] at hrow
      obtain ⟨xo, xl, r, y, xv, xb⟩ := x
      simp only at hrec0 hvb0 hsz hxl
      obtain ⟨da, dn, dc, ca, cn, cc, e1, e2, -⟩ := hrec0.open
      obtain ⟨ba, bn, bc, rfl, -⟩ := hvb0.formN
      unfold WDeed.cells at hrow
      simp only [e1, e2] at hrow
      have hgn : (i : Int) < (n : Int) := by omega
      have hnc : n ≤ vc := by rw [← HN.out]; exact hlc'
      have hgnn : i < n := hlt
      have hmn := HMN.out
      have hw24 := hS.mid.own.wf.len
      have hmi : (mn : Int) ≤ 16777216 := by omega
      have hm0 : (0 : Int) ≤ (mn : Int) := by omega
      obtain ⟨bx, hbx⟩ : ∃ bx, wr.heap.size = bx := ⟨_, rfl⟩
      have hS1 := hS.box (.cells #[.int .i64 xo, .int .u64 xl, .int .i64 r.kind, .int .u64 r.tx, .int .u64 r.prev, .int .u64 r.next, .slice da dn dc, .slice ca cn cc, .slice ba bn bc] 61)
      have kx := heap_alloc_new wr (.cells #[.int .i64 xo, .int .u64 xl, .int .i64 r.kind, .int .u64 r.tx, .int .u64 r.prev, .int .u64 r.next, .slice da dn dc, .slice ca cn cc, .slice ba bn bc] 61)
      obtain ⟨wA, hwA⟩ : ∃ wA, wr.alloc (.cells #[.int .i64 xo, .int .u64 xl, .int .i64 r.kind, .int .u64 r.tx, .int .u64 r.prev, .int .u64 r.next, .slice da dn dc, .slice ca cn cc, .slice ba bn bc] 61) = wA := ⟨_, rfl⟩
      rw [hwA, hbx] at hS1 kx
      obtain ⟨y0, y1, y8, y2, y3, y4, y5, y6, y7⟩ := box9 kx
      obtain ⟨G1, hG1⟩ : ∃ G1 : Foot, (fun k => G k ∨ k = bx) = G1 := ⟨_, rfl⟩
      have hgx : G1 bx := by rw [← hG1]; exact .inr rfl
      rw [hG1] at hS1
      have hil : i ≤ 1048576 := by omega
      have HROW := Lib.hid hrow
      have HWA := Lib.hid hwA
      have HJ := Lib.hid (And.intro hrec0 (And.intro hvb0 (And.intro hsz (And.intro hxl (And.intro hil (And.intro hlt (And.intro hgx (And.intro kx (And.intro e1 e2)))))))))
      have HS1 := Lib.hid hS1
      clear hS hS1 hrow hwA hlr hx hxm hrec0 hvb0 hsz hxl hil hlt hgx kx hmn hw24 hli hin e1 e2 hG1 hlc' hcm'
      go_upto_region 12 with (first | (refine wpList_load_mid rfl _ _ rfl g (off + i * 9) rfl [.int .i64 xo, .int .u64 xl, .int .i64 r.kind, .int .u64 r.tx, .int .u64 r.prev, .int .u64 r.next, .slice da dn dc, .slice ca cn cc, .slice ba bn bc] _ HROW.out Try.underlying61 rfl infoWD ?_) | fail)
      rw [HWA.out]
      clear HROW HWA hbx
      by_cases h0 : xo = 0
      · as_aux_lemma =>
          subst h0
          have hap := HS1.out.append (r := r) (x := y) HJ.out.2.2.2.2.1 (HJ.out.1.below HS1.out.mid.own.below) HJ.out.2.2.1
          unfold rval at hap
          rw [HJ.out.2.2.2.2.2.2.2.2.1, HJ.out.2.2.2.2.2.2.2.2.2] at hap
          have HAP := Lib.hid hap
          clear hap
          go_wp2_with fail
          refine HAP.out.mono ?_
          rintro e w4 ⟨nn, kk, dm', m', rfl, hM, hK, hdv, hw⟩
          have kx4 := (hK.2 bx (.inr HJ.out.2.2.2.2.2.2.1)).trans HJ.out.2.2.2.2.2.2.2.1
          clear y0 y1 y8 y2 y3 y4 y5 y6 y7
          obtain ⟨y0, y1, y8, y2, y3, y4, y5, y6, y7⟩ := box9 kx4
          have hrf := r7append w4 (.slice ma mn mc) m s r y hM.rl (HJ.out.1.below hM.own.below) HJ.out.2.2.1 (by have := HS.out; omega)
          unfold rval at hrf
          rw [HJ.out.2.2.2.2.2.2.2.2.1, HJ.out.2.2.2.2.2.2.2.2.2] at hrf
          have HRF := Lib.hid hrf
          have HM4 := Lib.hid (And.intro hM (And.intro hdv hw))
          clear hrf hM hK hdv hw kx4 HAP HS1
          go_wp2_with (first | (refine wpList_load_row rfl _ _ rfl b rfl _ _ (0, 0) _ HM4.out.1.box Try.underlying59 rfl infoRL ?_) | fail)
          refine HRF.out.mono ?_
          rintro e w5 hr5
          obtain ⟨bw', rfl, hnr⟩ := ap_same HM4.out.2.2 hr5 HM4.out.1.rl.rd
          obtain ⟨pa, pn, pc, rfl⟩ : ∃ a n c, bw' = .slice a n c := by
            obtain ⟨-, G', -, hrd9⟩ := hnr
            obtain ⟨a, n, c, e9, -⟩ := hrd9.formN
            exact ⟨a, n, c, e9⟩
          obtain ⟨g5, hg5⟩ : ∃ g5, w5.heap.size = g5 := ⟨_, rfl⟩
          obtain ⟨w6, hw6⟩ : ∃ w6, w5.alloc (.cells #[.int .u64 m'.base, .int .u64 m'.check, .slice pa pn pc, .int .i64 m'.forced, .int .i64 s] 59) = w6 := ⟨_, rfl⟩
          have hb6 : Below w5.heap.size w5 w6 := by rw [← hw6]; exact (Below.refl _ _).alloc (Nat.le_refl _) _
          have k65 : w6.heap[g5]? = some (.cells (rlC m' (.slice pa pn pc) s) 59 (0, 0)) := by rw [← hw6, ← hg5]; exact heap_alloc_new w5 _
          have hb46 : Below w4.heap.size w4 w6 := hnr.1.trans (hb6.mono hnr.1.size)
          have k6b := (hb46.block _ (lt_of_block HM4.out.1.box)).trans HM4.out.1.box
          obtain ⟨w7, hw7⟩ : ∃ w7, w6.setRow b (rlC m' (.slice pa pn pc) s) = w7 := ⟨_, rfl⟩
          have k7b : w7.heap[b]? = some (.cells (rlC m' (.slice pa pn pc) s) 59 (0, 0)) := by rw [← hw7]; exact setRow_blk k6b
          obtain ⟨G7, hS7⟩ := HM4.out.1.turn (hnr.more hb6) HM4.out.2.1 (w2 := w7) (fun k hk => by rw [← hw7]; exact setRow_other hk) k7b (by rw [← hw7]; rfl) (by rw [← hw7]; rfl) (by rw [← hw7]; rfl) (by rw [← hw7]; simp [World.setRow])
          have h1c := rlC_one m' pa pn pc s
          have H1C := Lib.hid h1c
          have K65 := Lib.hid k65
          have K6B := Lib.hid k6b
          have HW6 := Lib.hid hw6
          have HSN := Lib.hid hS7
          unfold rlC
          clear hr5 hnr hw6 hb6 k65 hb46 k6b k7b hS7 h1c HRF HM4 y0 y1 y8 y2 y3 y4 y5 y6 y7
          have hlk := HSN.out.looks
          have HLK := Lib.hid hlk
          clear hlk
          go_wp2_with (first | (rw [HW6.out]; refine wpList_load_row rfl _ _ rfl g5 rfl _ _ (0, 0) _ K65.out Try.underlying59 rfl infoRL ?_) | (refine wpList_store_row rfl _ _ _ rfl b (rlC m' (.slice pa pn pc) s) rfl rfl _ _ K6B.out infoRL rfl H1C.out ?_; rw [hw7]) | (refine wpList_load_row rfl _ _ rfl b rfl _ _ (0, 0) _ HSN.out.mid.box Try.underlying59 rfl infoRL ?_) | (go_at_call 32; (refine HLK.out.mono ?_); rintro e wz ⟨rfl, hz⟩; have HZ := Lib.hid hz; clear hz) | fail)
          clear HLK HSN
          go_roundw
          case rel => exact ⟨i + 1, _, _, _, _, _, _, by go_num, by have := HJ.out.2.2.2.2.2.1; omega, rfl, rfl, HZ.out⟩
          case measure => have := HJ.out.2.2.2.2.2.1; simp [intOf]; omega
      by_cases h1 : xo = 1
      · as_aux_lemma =>
          subst h1
          have hfc := HS1.out.force HJ.out.2.2.2.2.1 xl
          have HFC := Lib.hid hfc
          clear hfc
          go_wp2_with fail
          refine HFC.out.mono ?_
          rintro e w4 ⟨rfl, dm', m', hM, hK, hdv, hc⟩
          have kx4 := (hK.2 bx (.inr HJ.out.2.2.2.2.2.2.1)).trans HJ.out.2.2.2.2.2.2.2.1
          clear y0 y1 y8 y2 y3 y4 y5 y6 y7
          obtain ⟨-, y1, -, -, -, -, -, -, -⟩ := box9 kx4
          obtain ⟨z0, -, z2, z3, -⟩ := box5 hM.box
          obtain ⟨fo, hfo⟩ : ∃ fo, m.base + m.forced = fo := ⟨_, rfl⟩
          have hw1 := hM.rl.wf.base
          have hw2 := hM.rl.wf.len
          have hw3 := hM.rl.wf.forced
          have v1 : IntKind.u64.wrap (m.forced : Int) = (m.forced : Int) := wrap_u64_nat _ (by omega)
          have v2 : IntKind.u64.wrap ((m.base : Int) + (m.forced : Int)) = (fo : Int) := by
            rw [← hfo]
            have := wrap_u64_nat (m.base + m.forced) (by omega)
            push_cast at this ⊢
            exact this
          rcases hc with ⟨hlt, hmm⟩ | ⟨hge, hmm⟩
          · rw [hmm] at hM hdv
            have t1 : ¬ ((fo : Int) ≤ (xl : Int)) := by omega
            have t1n : decide (fo ≤ xl) = false := decide_eq_false (by omega)
            have hsn : PlS w1 D L b G1 s (i + 1) (.slice ma mn mc) dm' m w4 := ⟨hdv, hM⟩
            have HSN := Lib.hid hsn
            clear hM hK hdv kx4 hw1 hw2 hw3 hlt hmm hfo hsn HFC HS1
            have hlk := HSN.out.looks
            have HLK := Lib.hid hlk
            clear hlk
            go_wp2_with (first | (refine wpList_load_row rfl _ _ rfl b rfl _ _ (0, 0) _ HSN.out.mid.box Try.underlying59 rfl infoRL ?_) | (go_at_call 32; (refine HLK.out.mono ?_); rintro e wz ⟨rfl, hz⟩; have HZ := Lib.hid hz; clear hz) | fail)
            clear HLK HSN
            go_roundw
            case rel => exact ⟨i + 1, _, _, _, _, _, _, by go_num, by have := HJ.out.2.2.2.2.2.1; omega, rfl, rfl, HZ.out⟩
            case measure => have := HJ.out.2.2.2.2.2.1; simp [intOf]; omega
          · rw [hmm] at hM hdv
            have t1 : (fo : Int) ≤ (xl : Int) := by omega
            have t1n : decide (fo ≤ xl) = true := decide_eq_true (by omega)
            obtain ⟨w5, hw5⟩ : ∃ w5, w4.setCell ⟨b, 3, none⟩ (.int .i64 mn) = w5 := ⟨_, rfl⟩
            have k5b : w5.heap[b]? = some (.cells (rlC m.done (.slice ma mn mc) s) 59 (0, 0)) := by
              rw [← hw5]
              have h9 := block_setCell (i := 3) hM.box (.int .i64 mn)
              rw [h9]
              simp [rlC, LM.done, HMN.out]
            have f3 : w4.frozen? ⟨b, 3, none⟩ = false := by simp [World.frozen?, hM.box]
            obtain ⟨G7, hS7⟩ := hM.turn (w' := w4) (bw' := .slice ma mn mc) (NewRd.same (show RdB (fun k => ¬ G1 k) w4 (.slice ma mn mc) m.done.bytes from hM.rl.rd) (Below.refl _ _)) hdv (w2 := w5) (fun k hk => by rw [← hw5]; exact block_setCell_ne _ hk) k5b (by rw [← hw5]; rfl) (by rw [← hw5]; rfl) (by rw [← hw5]; rfl) (by rw [← hw5]; simp [World.setCell])
            have HSN := Lib.hid hS7
            clear hM hK hdv kx4 hw1 hw2 hw3 hge hmm hfo k5b hS7 HFC HS1
            have hlk := HSN.out.looks
            have HLK := Lib.hid hlk
            clear hlk
            go_wp2_with (first | (refine wpList_load_row rfl _ _ rfl b rfl _ _ (0, 0) _ HSN.out.mid.box Try.underlying59 rfl infoRL ?_) | (go_at_call 32; (refine HLK.out.mono ?_); rintro e wz ⟨rfl, hz⟩; have HZ := Lib.hid hz; clear hz) | fail)
            clear HLK HSN
            go_roundw
            case rel => exact ⟨i + 1, _, _, _, _, _, _, by go_num, by have := HJ.out.2.2.2.2.2.1; omega, rfl, rfl, HZ.out⟩
            case measure => have := HJ.out.2.2.2.2.2.1; simp [intOf]; omega
      by_cases h2 : xo = 2
      · as_aux_lemma =>
          subst h2
          have hre := HS1.out.read xl
          have HRE := Lib.hid hre
          clear hre
          go_wp2_with fail
          refine HRE.out.mono ?_
          rintro e w4 ⟨⟨rr, x3, n3, k3, rfl, hrec3, hb3, hres3⟩, hS3⟩
          obtain ⟨da3, dn3, dc3, ca3, cn3, cc3, e3, e4, -⟩ := hrec3.open
          unfold rval
          rw [e3, e4]
          obtain ⟨g17, hg17⟩ : ∃ g17, w4.heap.size = g17 := ⟨_, rfl⟩
          obtain ⟨w5, hw5⟩ : ∃ w5, w4.alloc (.cells #[.int .i64 rr.kind, .int .u64 rr.tx, .int .u64 rr.prev, .int .u64 rr.next, .slice da3 dn3 dc3, .slice ca3 cn3 cc3] 26) = w5 := ⟨_, rfl⟩
          have hb5 : Below w4.heap.size w4 w5 := by rw [← hw5]; exact (Below.refl _ _).alloc (Nat.le_refl _) _
          have hS5 := hS3.below hb5
          have hrec5 := hrec3.below hb5
          have k57 : w5.heap[g17]? = some (.cells (rcs rr (.slice da3 dn3 dc3) (.slice ca3 cn3 cc3)) 26 (0, 0)) := by rw [← hw5, ← hg17]; exact heap_alloc_new w4 _
          have kx4 := (hb3.block _ (lt_of_block HJ.out.2.2.2.2.2.2.2.1)).trans HJ.out.2.2.2.2.2.2.2.1
          have kx5 := (hb5.block _ (lt_of_block kx4)).trans kx4
          clear y0 y1 y8 y2 y3 y4 y5 y6 y7
          obtain ⟨-, y1, -, -, -, -, -, -, -⟩ := box9 kx5
          have hrf := r7read w5 (.slice ma mn mc) m s xl hS5.mid.rl HJ.out.2.2.2.1
          have HRF := Lib.hid hrf
          have HW5 := Lib.hid hw5
          have HS5 := Lib.hid hS5
          have HR5 := Lib.hid (And.intro hrec5 (And.intro e3 (And.intro e4 (And.intro k57 hres3))))
          clear hrec3 hb3 hres3 hS3 e3 e4 hw5 hb5 hS5 hrec5 k57 kx4 kx5 hrf HRE HS1
          go_wp2_with (first | (rw [HW5.out]; refine wpList_load_row rfl _ _ rfl b rfl _ _ (0, 0) _ HS5.out.mid.box Try.underlying59 rfl infoRL ?_) | fail)
          refine HRF.out.mono ?_
          rintro e w6 hr6
          obtain ⟨r6, x6, n6, k6, rfl, hrec6, hb6, hres6⟩ := hr6.told
          obtain ⟨hq1, hq2, hq3⟩ := HR5.out.2.2.2.2.uniq hres6
          subst hq1 hq2 hq3
          obtain ⟨da6, dn6, dc6, ca6, cn6, cc6, e3', e4', -⟩ := hrec6.open
          unfold rval
          rw [e3', e4']
          obtain ⟨g20, hg20⟩ : ∃ g20, w6.heap.size = g20 := ⟨_, rfl⟩
          obtain ⟨w7, hw7⟩ : ∃ w7, w6.alloc (.cells #[.int .i64 rr.kind, .int .u64 rr.tx, .int .u64 rr.prev, .int .u64 rr.next, .slice da6 dn6 dc6, .slice ca6 cn6 cc6] 26) = w7 := ⟨_, rfl⟩
          have hb7 : Below w6.heap.size w6 w7 := by rw [← hw7]; exact (Below.refl _ _).alloc (Nat.le_refl _) _
          have hb57 := hb6.trans (hb7.mono hb6.size)
          have hS7 := HS5.out.below hb57
          have hrx := HR5.out.1.below hb57
          have hry := hrec6.below hb7
          have k77 := (hb57.block _ (lt_of_block HR5.out.2.2.2.1)).trans HR5.out.2.2.2.1
          have k70 : w7.heap[g20]? = some (.cells (rcs rr (.slice da6 dn6 dc6) (.slice ca6 cn6 cc6)) 26 (0, 0)) := by rw [← hw7, ← hg20]; exact heap_alloc_new w6 _
          have hsm := same_any w7 rr x3 x6 hrx hry
          unfold rval at hsm
          rw [HR5.out.2.1, HR5.out.2.2.1, e3', e4'] at hsm
          have HS7 := Lib.hid hS7
          have HSM := Lib.hid hsm
          obtain ⟨a0, a1, a2, a3, a4, a5⟩ := box6 (w := w) k77
          obtain ⟨b0, b1, b2, b3, b4, b5⟩ := box6 (w := w) k70
          clear hr6 hrec6 hb6 hres6 e3' e4' hb7 hb57 hS7 hrx hry k77 k70 hsm HW5 HS5 HR5 HRF y1
          go_upto_region 40 with fail
          clear hw7
          go_upto_region 54 with (first | (go_at_call 12; (refine HSM.out.mono ?_); rintro e w8 ⟨rfl, hb8⟩; have HSN := Lib.hid (HS7.out.below hb8); clear hb8) | fail)
          clear hg17 hg20 HSM HS7 a0 a1 a2 a3 a4 a5 b0 b1 b2 b3 b4 b5
          have hlk := HSN.out.looks
          have HLK := Lib.hid hlk
          clear hlk
          go_wp2_with (first | (refine wpList_load_row rfl _ _ rfl b rfl _ _ (0, 0) _ HSN.out.mid.box Try.underlying59 rfl infoRL ?_) | (go_at_call 32; (refine HLK.out.mono ?_); rintro e wz ⟨rfl, hz⟩; have HZ := Lib.hid hz; clear hz) | fail)
          clear HLK HSN
          go_roundw
          case rel => exact ⟨i + 1, _, _, _, _, _, _, by go_num, by have := HJ.out.2.2.2.2.2.1; omega, rfl, rfl, HZ.out⟩
          case measure => have := HJ.out.2.2.2.2.2.1; simp [intOf]; omega
      by_cases h3 : xo = 3
      · as_aux_lemma =>
          subst h3
          have hct := HS1.out.cut HJ.out.2.2.2.2.1 xl
          have HCT := Lib.hid hct
          clear hct
          go_wp2_with fail
          refine HCT.out.mono ?_
          rintro e w4 ⟨kk, dm', m', rfl, hM, hK, hdv, hw⟩
          have kx4 := (hK.2 bx (.inr HJ.out.2.2.2.2.2.2.1)).trans HJ.out.2.2.2.2.2.2.2.1
          clear y0 y1 y8 y2 y3 y4 y5 y6 y7
          obtain ⟨y0, y1, y8, y2, y3, y4, y5, y6, y7⟩ := box9 kx4
          have hrf := r7cut2 w4 (.slice ma mn mc) m s xl hM.rl HJ.out.2.2.2.1
          have HRF := Lib.hid hrf
          have HM4 := Lib.hid (And.intro hM (And.intro hdv hw))
          clear hrf hM hK hdv hw kx4 HCT HS1
          go_wp2_with (first | (refine wpList_load_row rfl _ _ rfl b rfl _ _ (0, 0) _ HM4.out.1.box Try.underlying59 rfl infoRL ?_) | fail)
          refine HRF.out.mono ?_
          rintro e w5 hr5
          obtain ⟨bw', rfl, hnr⟩ := ct_same HM4.out.2.2 hr5 HM4.out.1.rl.rd
          obtain ⟨pa, pn, pc, rfl⟩ : ∃ a n c, bw' = .slice a n c := by
            obtain ⟨-, G', -, hrd9⟩ := hnr
            obtain ⟨a, n, c, e9, -⟩ := hrd9.formN
            exact ⟨a, n, c, e9⟩
          obtain ⟨g5, hg5⟩ : ∃ g5, w5.heap.size = g5 := ⟨_, rfl⟩
          obtain ⟨w6, hw6⟩ : ∃ w6, w5.alloc (.cells #[.int .u64 m'.base, .int .u64 m'.check, .slice pa pn pc, .int .i64 m'.forced, .int .i64 s] 59) = w6 := ⟨_, rfl⟩
          have hb6 : Below w5.heap.size w5 w6 := by rw [← hw6]; exact (Below.refl _ _).alloc (Nat.le_refl _) _
          have k65 : w6.heap[g5]? = some (.cells (rlC m' (.slice pa pn pc) s) 59 (0, 0)) := by rw [← hw6, ← hg5]; exact heap_alloc_new w5 _
          have hb46 : Below w4.heap.size w4 w6 := hnr.1.trans (hb6.mono hnr.1.size)
          have k6b := (hb46.block _ (lt_of_block HM4.out.1.box)).trans HM4.out.1.box
          obtain ⟨w7, hw7⟩ : ∃ w7, w6.setRow b (rlC m' (.slice pa pn pc) s) = w7 := ⟨_, rfl⟩
          have k7b : w7.heap[b]? = some (.cells (rlC m' (.slice pa pn pc) s) 59 (0, 0)) := by rw [← hw7]; exact setRow_blk k6b
          obtain ⟨G7, hS7⟩ := HM4.out.1.turn (hnr.more hb6) HM4.out.2.1 (w2 := w7) (fun k hk => by rw [← hw7]; exact setRow_other hk) k7b (by rw [← hw7]; rfl) (by rw [← hw7]; rfl) (by rw [← hw7]; rfl) (by rw [← hw7]; simp [World.setRow])
          have h1c := rlC_one m' pa pn pc s
          have H1C := Lib.hid h1c
          have K65 := Lib.hid k65
          have K6B := Lib.hid k6b
          have HW6 := Lib.hid hw6
          have HSN := Lib.hid hS7
          unfold rlC
          clear hr5 hnr hw6 hb6 k65 hb46 k6b k7b hS7 h1c HRF HM4 y0 y1 y8 y2 y3 y4 y5 y6 y7
          have hlk := HSN.out.looks
          have HLK := Lib.hid hlk
          clear hlk
          go_wp2_with (first | (rw [HW6.out]; refine wpList_load_row rfl _ _ rfl g5 rfl _ _ (0, 0) _ K65.out Try.underlying59 rfl infoRL ?_) | (refine wpList_store_row rfl _ _ _ rfl b (rlC m' (.slice pa pn pc) s) rfl rfl _ _ K6B.out infoRL rfl H1C.out ?_; rw [hw7]) | (refine wpList_load_row rfl _ _ rfl b rfl _ _ (0, 0) _ HSN.out.mid.box Try.underlying59 rfl infoRL ?_) | (go_at_call 32; (refine HLK.out.mono ?_); rintro e wz ⟨rfl, hz⟩; have HZ := Lib.hid hz; clear hz) | fail)
          clear HLK HSN
          go_roundw
          case rel => exact ⟨i + 1, _, _, _, _, _, _, by go_num, by have := HJ.out.2.2.2.2.2.1; omega, rfl, rfl, HZ.out⟩
          case measure => have := HJ.out.2.2.2.2.2.1; simp [intOf]; omega
      by_cases h4 : xo = 4
      · as_aux_lemma =>
          subst h4
          have hct := HS1.out.check HJ.out.2.2.2.2.1 xl
          have HCT := Lib.hid hct
          clear hct
          go_wp2_with fail
          refine HCT.out.mono ?_
          rintro e w4 ⟨kk, dm', m', rfl, hM, hK, hdv, hw⟩
          have kx4 := (hK.2 bx (.inr HJ.out.2.2.2.2.2.2.1)).trans HJ.out.2.2.2.2.2.2.2.1
          clear y0 y1 y8 y2 y3 y4 y5 y6 y7
          obtain ⟨y0, y1, y8, y2, y3, y4, y5, y6, y7⟩ := box9 kx4
          have hrf := r7check w4 (.slice ma mn mc) m s xl hM.rl HJ.out.2.2.2.1
          have HRF := Lib.hid hrf
          have HM4 := Lib.hid (And.intro hM (And.intro hdv hw))
          clear hrf hM hK hdv hw kx4 HCT HS1
          go_wp2_with (first | (refine wpList_load_row rfl _ _ rfl b rfl _ _ (0, 0) _ HM4.out.1.box Try.underlying59 rfl infoRL ?_) | fail)
          refine HRF.out.mono ?_
          rintro e w5 hr5
          obtain ⟨bw', rfl, hnr⟩ := (show ∃ bw', e = .returned (.tuple #[.agg (rlC m' bw' s), .int .i64 kk]) ∧ NewRd G1 w4 w5 bw' m'.bytes from ⟨_, ck_same HM4.out.2.2 hr5 HM4.out.1.rl.rd⟩)
          obtain ⟨pa, pn, pc, rfl⟩ : ∃ a n c, bw' = .slice a n c := by
            obtain ⟨-, G', -, hrd9⟩ := hnr
            obtain ⟨a, n, c, e9, -⟩ := hrd9.formN
            exact ⟨a, n, c, e9⟩
          obtain ⟨g5, hg5⟩ : ∃ g5, w5.heap.size = g5 := ⟨_, rfl⟩
          obtain ⟨w6, hw6⟩ : ∃ w6, w5.alloc (.cells #[.int .u64 m'.base, .int .u64 m'.check, .slice pa pn pc, .int .i64 m'.forced, .int .i64 s] 59) = w6 := ⟨_, rfl⟩
          have hb6 : Below w5.heap.size w5 w6 := by rw [← hw6]; exact (Below.refl _ _).alloc (Nat.le_refl _) _
          have k65 : w6.heap[g5]? = some (.cells (rlC m' (.slice pa pn pc) s) 59 (0, 0)) := by rw [← hw6, ← hg5]; exact heap_alloc_new w5 _
          have hb46 : Below w4.heap.size w4 w6 := hnr.1.trans (hb6.mono hnr.1.size)
          have k6b := (hb46.block _ (lt_of_block HM4.out.1.box)).trans HM4.out.1.box
          obtain ⟨w7, hw7⟩ : ∃ w7, w6.setRow b (rlC m' (.slice pa pn pc) s) = w7 := ⟨_, rfl⟩
          have k7b : w7.heap[b]? = some (.cells (rlC m' (.slice pa pn pc) s) 59 (0, 0)) := by rw [← hw7]; exact setRow_blk k6b
          obtain ⟨G7, hS7⟩ := HM4.out.1.turn (hnr.more hb6) HM4.out.2.1 (w2 := w7) (fun k hk => by rw [← hw7]; exact setRow_other hk) k7b (by rw [← hw7]; rfl) (by rw [← hw7]; rfl) (by rw [← hw7]; rfl) (by rw [← hw7]; simp [World.setRow])
          have h1c := rlC_one m' pa pn pc s
          have H1C := Lib.hid h1c
          have K65 := Lib.hid k65
          have K6B := Lib.hid k6b
          have HW6 := Lib.hid hw6
          have HSN := Lib.hid hS7
          unfold rlC
          clear hr5 hnr hw6 hb6 k65 hb46 k6b k7b hS7 h1c HRF HM4 y0 y1 y8 y2 y3 y4 y5 y6 y7
          have hlk := HSN.out.looks
          have HLK := Lib.hid hlk
          clear hlk
          go_wp2_with (first | (rw [HW6.out]; refine wpList_load_row rfl _ _ rfl g5 rfl _ _ (0, 0) _ K65.out Try.underlying59 rfl infoRL ?_) | (refine wpList_store_row rfl _ _ _ rfl b (rlC m' (.slice pa pn pc) s) rfl rfl _ _ K6B.out infoRL rfl H1C.out ?_; rw [hw7]) | (refine wpList_load_row rfl _ _ rfl b rfl _ _ (0, 0) _ HSN.out.mid.box Try.underlying59 rfl infoRL ?_) | (go_at_call 32; (refine HLK.out.mono ?_); rintro e wz ⟨rfl, hz⟩; have HZ := Lib.hid hz; clear hz) | fail)
          clear HLK HSN
          go_roundw
          case rel => exact ⟨i + 1, _, _, _, _, _, _, by go_num, by have := HJ.out.2.2.2.2.2.1; omega, rfl, rfl, HZ.out⟩
          case measure => have := HJ.out.2.2.2.2.2.1; simp [intOf]; omega
      · as_aux_lemma =>
          have n0 : (xo == 0) = false := by simpa using h0
          have n1 : (xo == 1) = false := by simpa using h1
          have n2 : (xo == 2) = false := by simpa using h2
          have n3 : (xo == 3) = false := by simpa using h3
          have n4 : (xo == 4) = false := by simpa using h4
          clear h0 h1 h2 h3 h4
          have hcr := HS1.out.crash (c := xb) (v := .slice ba bn bc) HJ.out.2.2.2.2.1 HJ.out.2.1
          have HWF := Lib.hid HS1.out.mid.own.wf
          have HCR := Lib.hid hcr
          clear hcr
          go_wp2_with fail
          refine HCR.out.mono ?_
          rintro e w4 ⟨D2, F2, dm2, j, tail, rfl, hC, hP⟩
          have hlg := d_log w4 D2 F2 dm2 hC.disk hP.live.1
          obtain ⟨ll, hll⟩ : ∃ ll, dm2.log.length = ll := ⟨_, rfl⟩
          rw [hll] at hlg
          have HLG := Lib.hid hlg
          have HC4 := Lib.hid (And.intro hC (And.intro hP hll))
          clear hlg hC hP hll n0 n1 n2 n3 n4 y0 y1 y8 y2 y3 y4 y5 y6 y7 HCR HS1
          go_wp2_with fail
          refine HLG.out.mono ?_
          rintro e w5 ⟨rfl, hw5⟩
          have hb5 : Below w4.heap.size w4 w5 := by rw [← hw5]; exact (Below.refl _ _).alloc (Nat.le_refl _) _
          have hC5 := HC4.out.1.below hb5
          have hml : m.bytes.length = mn := by rw [HMN.out]; exact encL_length _ _
          have hsm : ll ≤ 4095 := by rw [← HC4.out.2.2]; exact HC4.out.2.1.small
          have hlf : m.forced ≤ ll := by rw [← HC4.out.2.2]; exact HC4.out.2.1.le.1
          have hlm : ll ≤ mn := by rw [← HC4.out.2.2, ← hml]; exact HC4.out.2.1.le.2
          obtain ⟨g5, hg5⟩ : ∃ g5, w4.heap.size = g5 := ⟨_, rfl⟩
          have hrd5 : RdB (fun k => ¬ (k = g5)) w5 (.slice (some ⟨g5, 0, none⟩) ll ll) dm2.log := by
            have h9 := bobj_rd (F := fun k => ¬ (k = g5)) w4 dm2.log ll HC4.out.2.2.symm (maxLen_ge (by have := HC4.out.2.2; omega)) (by rw [hg5]; simp)
            rw [hw5, HC4.out.2.2, hg5] at h9
            exact h9
          obtain ⟨a2, c2, hsl2, hrd2⟩ := slice_bytes_to hC5.rd ll (by omega)
          have hpre : m.bytes.take ll = dm2.log := by have h9 := HC4.out.2.1.pre; rw [HC4.out.2.2] at h9; exact h9.symm
          rw [hpre] at hrd2
          obtain ⟨S, hSt⟩ : ∃ S, strOf dm2.log = S := ⟨_, rfl⟩
          have cv1 := fun nq => str_bytes (hrd5.drewN nq)
          have cv2 := fun nq => str_bytes (hrd2.drewN nq)
          rw [hSt] at cv1 cv2
          obtain ⟨-, -, z2, z3, -⟩ := box5 hC5.box
          have t1 : ¬ ((ll : Int) < (m.forced : Int)) := by omega
          have t1n : decide (ll < m.forced) = false := decide_eq_false (by omega)
          have t2 : ¬ ((mn : Int) < (ll : Int)) := by omega
          have t2n : decide (mn < ll) = false := decide_eq_false (by omega)
          have l0 : (0 : Int) ≤ (ll : Int) := by omega
          have l1 : (ll : Int) ≤ (mn : Int) := by omega
          have hg59 : w4.heap.size < w5.heap.size := by rw [← hw5, World.size_alloc]; omega
          have HG5 := Lib.hid hg59
          have HB5 := Lib.hid hb5
          have HR5 := Lib.hid hrd5
          have HC5 := Lib.hid hC5
          have HLL := Lib.hid (And.intro hsm (And.intro hlf (And.intro hlm hml)))
          clear hg59 hb5 hC5 hrd5 hrd2 hpre hSt hsm hlf hlm hml hw5 HLG
          go_wp2
          go_quiet (fail)
          obtain ⟨w6, hw6⟩ : ∃ w6, w5.drewN nq = w6 := ⟨_, rfl⟩
          rw [hw6]
          have hb46 : Below w4.heap.size w4 w6 := by rw [← hw6]; exact below_drewN HB5.out nq
          have hC6 : CrS w1 D2 b G1 F2 s (.slice ma mn mc) m.bytes dm2 m w6 := HC4.out.1.below hb46
          have hrd6 : RdB (fun k => ¬ (k = g5)) w6 (.slice (some ⟨g5, 0, none⟩) ll ll) dm2.log := by rw [← hw6]; exact HR5.out.drewN nq
          have hs46 : g5 < w6.heap.size := by
            have h9 : w5.heap.size ≤ w6.heap.size := by rw [← hw6]; exact Nat.le_refl _
            have h8 : w4.heap.size < w5.heap.size := HG5.out
            omega
          obtain ⟨w7, hw7⟩ : ∃ w7, w6.setCell ⟨b, 2, none⟩ (.slice (some ⟨g5, 0, none⟩) ll ll) = w7 := ⟨_, rfl⟩
          have k7b : w7.heap[b]? = some (.cells (rlC m (.slice (some ⟨g5, 0, none⟩) ll ll) s) 59 (0, 0)) := by rw [← hw7]; exact block_setCell hC6.box _
          have hnr6 : NewRd G1 w4 w6 (.slice (some ⟨g5, 0, none⟩) ll ll) dm2.log := ⟨hb46, fun k => k = g5, fun k hk => .inr ⟨by omega, by omega⟩, hrd6⟩
          obtain ⟨G6, hC7⟩ := HC4.out.1.turn (m2 := m) hnr6 (w2 := w7) (fun k hk => by rw [← hw7]; exact block_setCell_ne _ hk) k7b (by rw [← hw7]; rfl) (by rw [← hw7]; rfl) (by rw [← hw7]; rfl) (by rw [← hw7]; simp [World.setCell])
          have z62 : w6.cell? ⟨b, 2, none⟩ = some (.slice ma mn mc) := cell_of_row _ _ 2 _ _ _ hC6.box
          have f62 : w6.frozen? ⟨b, 2, none⟩ = false := by simp [World.frozen?, hC6.box]
          have hro : Calls Try.prog 31 #[.agg (rlC m (.slice (some ⟨g5, 0, none⟩) ll ll) s)] w7 (fun e w' => ∃ bv, e = .returned (.agg (rlC (m.left j) bv s)) ∧ RdB (fun k => ¬ G6 k) w' bv (m.left j).bytes ∧ Below w7.heap.size w7 w') :=
            r7open w7 (.slice (some ⟨g5, 0, none⟩) ll ll) ⟨m.base, m.recs.take j, m.forced, m.check⟩ s tail (by have h9 := hC7.rd; rw [HC4.out.2.1.log] at h9; exact h9)
              ⟨fun r hr => HWF.out.recs r (List.mem_of_mem_take hr), Nat.le_trans (lenL_take_le _ _) HWF.out.len, HWF.out.base⟩
              (fun h => by obtain ⟨r, k, h1, h2, h3⟩ := HC4.out.2.1.torn h; exact ⟨r, _, k, h1, h2, h3⟩)
              (by
                have h8 := congrArg List.length HC4.out.2.1.log
                rw [List.length_append, HC4.out.2.2, show (m.left j).bytes.length = lenL (m.recs.take j) from encL_length _ _] at h8
                have := HLL.out.1
                show lenL (m.recs.take j) + tail.length ≤ _
                omega)
          have HRO := Lib.hid hro
          have HC7 := Lib.hid hC7
          clear hw6 hb46 hC6 hrd6 hs46 k7b hnr6 hC7 hro cv1 cv2 hsl2 z2 z3 t1 t1n t2 t2n HB5 HR5 HC5 HG5
          go_wp2_with (first | (refine wpList_load_row rfl _ _ rfl b rfl _ _ (0, 0) _ HC7.out.box Try.underlying59 rfl infoRL ?_) | fail)
          refine HRO.out.mono ?_
          rintro e w8 ⟨bv8, rfl, hrd8, hb8⟩
          obtain ⟨pa, pn, pc, rfl, -⟩ := hrd8.formN
          have hC8 := HC7.out.below hb8
          obtain ⟨w9, hw9⟩ : ∃ w9, w8.setRow b (rlC (m.left j) (.slice pa pn pc) s) = w9 := ⟨_, rfl⟩
          have k9b : w9.heap[b]? = some (.cells (rlC (m.left j) (.slice pa pn pc) s) 59 (0, 0)) := by rw [← hw9]; exact setRow_blk hC8.box
          obtain ⟨G9, hC9⟩ := HC7.out.turn (m2 := m.left j) (NewRd.same hrd8 hb8) (w2 := w9) (fun k hk => by rw [← hw9]; exact setRow_other hk) k9b (by rw [← hw9]; rfl) (by rw [← hw9]; rfl) (by rw [← hw9]; rfl) (by rw [← hw9]; simp [World.setRow])
          have hop := hC9.open HC4.out.2.1 HWF.out HJ.out.2.2.2.2.1
          have h1c := rlC_one (m.left j) pa pn pc s
          have H1C := Lib.hid h1c
          have K8B := Lib.hid hC8.box
          have HOP := Lib.hid hop
          clear hrd8 hb8 hC8 k9b hC9 hop h1c HRO HC7 z62 f62 hw7
          go_wp2_with (first | (refine wpList_store_row rfl _ _ _ rfl b (rlC (m.left j) (.slice pa pn pc) s) rfl rfl _ _ K8B.out infoRL rfl H1C.out ?_; rw [hw9]) | fail)
          refine HOP.out.mono ?_
          rintro e w10 ⟨L2, dm3, rfl, hS10⟩
          have HSN := Lib.hid hS10
          clear hS10 HOP hw9 H1C K8B HLL HC4
          have hlk := HSN.out.looks
          have HLK := Lib.hid hlk
          clear hlk
          go_wp2_with (first | (refine wpList_load_row rfl _ _ rfl b rfl _ _ (0, 0) _ HSN.out.mid.box Try.underlying59 rfl infoRL ?_) | (go_at_call 32; (refine HLK.out.mono ?_); rintro e wz ⟨rfl, hz⟩; have HZ := Lib.hid hz; clear hz) | fail)
          clear HLK HSN
          go_roundw
          case rel => exact ⟨i + 1, _, _, _, _, _, _, by go_num, by have := HJ.out.2.2.2.2.2.1; omega, rfl, rfl, HZ.out⟩
          case measure => have := HJ.out.2.2.2.2.2.1; simp [intOf]; omega
    · obtain rfl : i = n := by omega
      have hdl : ∃ F bv sv, LogAt wr D L (uf (fun k => k = b) G) F dm m bv sv := by obtain ⟨F, bv, sv, h9, -⟩ := hS.mid.own; exact ⟨F, bv, sv, h9⟩
      obtain ⟨F9, bv9, sv9, hlg9⟩ := hdl
      have hdl := d_log wr D F9 dm hlg9.disk hS.dv.live.1
      have hln : dm.log.length = mn := by rw [hS.dv.llen, HMN.out]
      rw [hln] at hdl
      have HDL := Lib.hid hdl
      have HS9 := Lib.hid (And.intro hS hln)
      have hnn : ¬ ((i : Int) < (i : Int)) := by omega
      clear hlg9 hdl hln hS hge
      go_wp2_with fail
      refine HDL.out.mono ?_
      rintro e w4 ⟨rfl, hw4⟩
      have hb4 : Below wr.heap.size wr w4 := by rw [← hw4]; exact (Below.refl _ _).alloc (Nat.le_refl _) _
      have hS4 := HS9.out.1.below hb4
      have hrd4 : RdB NoF w4 (.slice (some ⟨wr.heap.size, 0, none⟩) mn mn) dm.log := by
        have h9 := bobj_rd (F := NoF) wr dm.log mn HS9.out.2.symm (maxLen_ge (by have := HS9.out.2; have := HS9.out.1.mid.rl.wf.len; have := HMN.out; omega)) (noF _)
        rw [hw4, HS9.out.2] at h9
        exact h9
      have hrdm := hS4.mid.rl.rd
      rw [← HS9.out.1.dv.log] at hrdm
      obtain ⟨S, hSt⟩ : ∃ S, strOf dm.log = S := ⟨_, rfl⟩
      have cv1 := str_bytes hrd4
      have cv2 := str_bytes hrdm
      rw [hSt] at cv1 cv2
      obtain ⟨-, -, z2, -, -⟩ := box5 hS4.mid.box
      have HB4 := Lib.hid hb4
      clear hb4 hS4 hrd4 hrdm hSt hw4 HDL
      go_wp2
      go_ret
      exact ⟨rfl, (HB1.out.trans (HS9.out.1.mid.own.below.mono HB1.out.size)).trans (HB4.out.mono (HB1.out.trans (HS9.out.1.mid.own.below.mono HB1.out.size)).size)⟩
end Mun
