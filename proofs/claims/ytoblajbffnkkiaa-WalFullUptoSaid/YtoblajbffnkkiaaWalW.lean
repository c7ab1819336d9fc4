/- The walk of munimentlaw7.awake. -/
import Derived.Test.YtoblajbffnkkiaaLogD
set_option maxRecDepth 100000
set_option linter.unusedVariables false
set_option linter.unusedSimpArgs false
namespace Mun
open Go Go.RowKit
open Go.Proofs

theorem r1_val (x : RV) : rval r1 x = .agg #[.int .i64 1, .int .u64 0, .int .u64 0, .int .u64 0, x.dv, x.cv] := rfl

theorem uf_own {F E : Foot} {B : Nat} (hF : ∀ k, F k → B ≤ k) (hE : ∀ k, E k → B ≤ k) : ∀ k, k < B → ¬ uf F E k := fun k hk h => by
  rcases h with h | h
  · have := hF k h; omega
  · have := hE k h; omega

/-- the record of kind 1 is laid into a new log -/
theorem app_first (w : World) (D L : Nat) (F : Foot) (room : Nat) (hr : 14 ≤ room) (bv sv : Value) (h : LogAt w D L F (DM.new 1 room) LM.new bv sv) :
    Calls Try.prog 16 #[.pointer (some ⟨L, 0, none⟩), .agg #[.int .i64 1, .int .u64 0, .int .u64 0, .int .u64 0, .slice none 0 0, .slice none 0 0]] w fun e w' =>
      e = .returned (.tuple #[.int .u64 1, .int .i64 0]) ∧ ∃ F' bv' sv', LogAt w' D L F' ((DM.new 1 room).append (recB r1 1)).1 (LM.new.push r1) bv' sv' ∧ Chg (uf F (lfoot L bv sv)) (uf F' (lfoot L bv' sv')) w w' := by
  have h9 := app_dev w D L F (DM.new 1 room) LM.new bv sv r1 nx h (r1_at NoF w) r1_ok (by simp [szR, r1]) (by simp [DM.new]) (fun _ => rfl)
  rw [r1_val] at h9
  refine Calls.mono h9 ?_
  have hfin : LM.new.fin = 1 := rfl
  rintro e w' (⟨h1, _⟩ | ⟨h1, rfl, F', bv', sv', h2, h3⟩)
  · rw [hfin, app_new room hr] at h1; exact absurd rfl h1
  · rw [hfin] at h2 ⊢
    exact ⟨rfl, F', bv', sv', h2, h3⟩

theorem read_first (w : World) (D L : Nat) (bv sv : Value) (h : LMem w D L (LM.new.push r1) bv sv) : Calls Try.prog 19 #[.pointer (some ⟨L, 0, none⟩), .int .u64 1] w fun e w' =>
    ∃ x, e = .returned (.tuple #[rval r1 x, .int .u64 15, .int .i64 0]) ∧ RecAt (OldF w.heap.size) w' r1 x ∧ Below w.heap.size w w' := by
  have h9 := l_read_yes w D L (LM.new.push r1) bv sv 0 h (by simp [LM.push, LM.new])
  have e1 : (LM.new.push r1).base + (LM.new.push r1).off 0 = 1 := rfl
  have e2 : (LM.new.push r1).base + (LM.new.push r1).off (0 + 1) = 15 := by
    show 1 + lenL [r1] = 15
    simp [lenL, r1_len]
  have e3 : (LM.new.push r1).recs[0]'(by simp [LM.push, LM.new]) = r1 := rfl
  rw [e1, e2, e3] at h9
  exact h9

set_option maxHeartbeats 1000000 in
theorem awake_any (w : World) : Calls Try.prog 9 #[] w fun e w' => e = .returned (.bool true) ∧ Below w.heap.size w w' := by
  have hf : Calls Try.prog 13 #[.int .i64 100] w (FreshOut w 100) := fresh_any w 100 (by omega)
  have HF := Lib.hid hf
  clear hf
  go_enter Try.func9, Try.ntmps9
  go_wp2_with fail
  refine HF.out.mono ?_
  rintro e w2 ⟨D, L, F, bv, sv, rfl, hlog, hb2, hF, hE⟩
  have hap := app_first w2 D L F 100 (by omega) bv sv hlog
  have HAP := Lib.hid hap
  have HB := Lib.hid (And.intro hb2 (And.intro hF hE))
  clear hap hlog hb2 hF hE HF
  go_wp2_with fail
  refine HAP.out.mono ?_
  rintro e w3 ⟨rfl, F', bv', sv', hlog3, hc3⟩
  have hb3 : Below w.heap.size w w3 := HB.out.1.trans (hc3.below HB.out.1.size (uf_own HB.out.2.1 HB.out.2.2))
  have hrd := read_first w3 D L bv' sv' hlog3.mem
  have HRD := Lib.hid hrd
  have HB3 := Lib.hid hb3
  clear hrd hb3 hlog3 hc3 HAP
  go_wp2_with fail
  refine HRD.out.mono ?_
  rintro e w4 ⟨x2, rfl, hrec, hb4⟩
  obtain ⟨da, dn, dc, ca, cn, cc, e1, e2, -⟩ := hrec.open
  have hb5 : Below w4.heap.size w4 (w4.alloc (.cells #[.int .i64 1, .int .u64 0, .int .u64 0, .int .u64 0, .slice da dn dc, .slice ca cn cc] 26)) := (Below.refl _ _).alloc (Nat.le_refl _) _
  have hsm := same_any (w4.alloc (.cells #[.int .i64 1, .int .u64 0, .int .u64 0, .int .u64 0, .slice da dn dc, .slice ca cn cc] 26)) r1 x2 nx (hrec.below hb5) (r1_at NoF _)
  rw [r1_val, r1_val, e1, e2, show nx.dv = .slice none 0 0 from rfl, show nx.cv = .slice none 0 0 from rfl] at hsm
  rw [r1_val, e1, e2]
  have HSM := Lib.hid hsm
  have hbw := HB3.out.trans (hb4.mono HB3.out.size)
  have HB5 := Lib.hid (And.intro (hbw.trans (hb5.mono hbw.size)) (hbw.trans (hb5.mono hbw.size)).size)
  clear hrec hb4 hb5 hsm e1 e2 hbw HRD
  go_wp2_with (go_at_call 12; (with_reducible refine HSM.out.mono ?_); rintro e w6 ⟨rfl, hb6⟩; have HB6 := Lib.hid (HB5.out.1.trans (hb6.mono HB5.out.2)); clear hb6)
  go_ret
  exact ⟨rfl, HB6.out⟩
end Mun
