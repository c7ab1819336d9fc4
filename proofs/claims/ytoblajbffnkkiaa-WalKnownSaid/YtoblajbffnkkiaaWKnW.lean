/- The walk of WalKnown. -/
import Derived.Test.YtoblajbffnkkiaaWalW
import Derived.Test.YtoblajbffnkkiaaLogE
set_option maxRecDepth 100000
set_option linter.unusedVariables false
set_option linter.unusedSimpArgs false
namespace Mun
open Go Go.RowKit
open Go.Proofs

theorem app_new_eq (room : Nat) (h : 14 ≤ room) : ((DM.new 1 room).append (recB r1 1)).1 = { DM.new 1 room with ops := 1, log := recB r1 1 } := by
  unfold DM.append
  have h1 : (DM.new 1 room).dead = false := rfl
  have h2 : ¬ (DM.new 1 room).room < (DM.new 1 room).log.length + (recB r1 1).length := by
    simp only [DM.new, List.length_nil, recB_len, r1_len, Nat.zero_add]; omega
  have h3 : ¬ (DM.new 1 room).fuse = 0 := by simp [DM.new]
  rw [h1, if_neg (by simp), if_neg h2, if_neg h3]
  simp [DM.spend, DM.new]

theorem dm1_force (room : Nat) : ({ DM.new 1 room with ops := 1, log := recB r1 1 } : DM).force.2 = 0 := by
  simp [DM.force, DM.new]

theorem r1_take : (recB r1 1).take 4 = [6, 0, 0, 0] := by
  unfold recB
  rw [List.append_assoc, List.take_left' (leBytes_length 4 _), r1_body]
  decide
theorem r1_drop : (recB r1 1).drop 8 = [1, 0, 0, 0, 0, 0] := by
  unfold recB
  rw [List.drop_left' (by rw [List.length_append, leBytes_length, leBytes_length]), r1_body]

set_option maxHeartbeats 2000000 in
theorem wknown_ok (w : World) : Calls Try.prog 4 #[] w fun e w' => e = .returned (.bool true) ∧ Below w.heap.size w w' := by
  have hby := bytes_ok w r1 nx 1 (by omega) (r1_at NoF w) r1_ok.good (by simp [szR, r1]) r1_ok.big
  rw [r1_val, show nx.dv = .slice none 0 0 from rfl, show nx.cv = .slice none 0 0 from rfl] at hby
  have hby2 : Calls Try.prog 10 #[.agg #[.int .i64 1, .int .u64 0, .int .u64 0, .int .u64 0, .slice none 0 0, .slice none 0 0], .int .u64 1] w (BytesOut w (recB r1 1)) := hby
  have HBY := Lib.hid hby2
  clear hby hby2
  go_enter Try.func4, Try.ntmps4
  go_wp2_with fail
  refine HBY.out.mono ?_
  rintro e w2 ⟨g, n, c, rfl, HN, ho, hb2⟩
  obtain rfl : n = 14 := by have := HN.out; rw [recB_len, r1_len] at this; exact this
  have haw := awake_any w2
  have HAW := Lib.hid haw
  have HO := Lib.hid (And.intro ho hb2)
  clear haw ho hb2 HBY
  go_wp2_with fail
  refine HAW.out.mono ?_
  rintro e w3 ⟨rfl, hb3⟩
  have hrd : RdB NoF w3 (.slice (some ⟨g, 0, none⟩) 14 c) (recB r1 1) := RdB.below (HO.out.1.rd (fun _ _ => noF _)) hb3
  obtain ⟨s1, q1, hr1, hd1⟩ := slice_bytes_to hrd 4 (by rw [recB_len, r1_len]; omega)
  obtain ⟨s2, q2, hr2, hd2⟩ := slice_bytes_from hrd 8 (by rw [recB_len, r1_len]; omega)
  rw [show ((4 : Nat) : Int) = 4 from rfl] at hr1
  rw [show ((8 : Nat) : Int) = 8 from rfl] at hr2
  have hc1 := str_bytes hd1
  have hc2 := str_bytes hd2
  rw [r1_take] at hc1
  rw [r1_drop] at hc2
  have hc1' : (convert 23 9 (.slice s1 4 q1)).run Try.prog w3 = .ok (.string ⟨#[6, 0, 0, 0]⟩) w3 := hc1
  have hc2' : (convert 23 9 (.slice s2 (14 - 8) q2)).run Try.prog w3 = .ok (.string ⟨#[1, 0, 0, 0, 0, 0]⟩) w3 := hc2
  have hb03 : Below w.heap.size w w3 := HO.out.2.trans (hb3.mono HO.out.2.size)
  have hf : Calls Try.prog 13 #[.int .i64 100] w3 (FreshOut w3 100) := fresh_any w3 100 (by omega)
  have HF := Lib.hid hf
  have HB03 := Lib.hid hb03
  clear hrd hd1 hd2 hc1 hc2 hf hb03 hb3
  go_wp2_with fail
  clear hr1 hr2 hc1' hc2'
  refine HF.out.mono ?_
  rintro e w4 ⟨D, L, F, bv, sv, rfl, hlog, hb4, hoF, hoE⟩
  have hb04 := HB03.out.trans (hb4.mono HB03.out.size)
  have hfi := l_first hlog.mem
  have hen := l_end hlog.mem
  have hfi' : Calls Try.prog 14 #[.pointer (some ⟨L, 0, none⟩)] w4 fun e w' => e = .returned (.int .u64 1) ∧ w4 = w' := hfi
  have hen' : Calls Try.prog 15 #[.pointer (some ⟨L, 0, none⟩)] w4 fun e w' => e = .returned (.int .u64 1) ∧ ∃ k, w' = w4.drewN k := hen
  have HX4 := Lib.hid (And.intro hlog (And.intro hb04 (And.intro hb4.size (And.intro hoF hoE))))
  clear hlog hb04 hfi hen hb4 hoF hoE HF
  go_wp2_with fail
  refine hfi'.mono ?_
  rintro e w9 ⟨rfl, rfl⟩
  clear hfi'
  go_wp2_with fail
  refine hen'.mono ?_
  rintro e w5 ⟨rfl, k5, hk5⟩
  have hl5 : LogAt w5 D L F (DM.new 1 100) LM.new bv sv := by rw [hk5]; exact HX4.out.1.drewN k5
  have hb5 : Below w.heap.size w w5 := by rw [hk5]; exact below_drewN HX4.out.2.1 k5
  have hs5 : w.heap.size ≤ w3.heap.size := HB03.out.size
  have hap := app_first w5 D L F 100 (by omega) bv sv hl5
  have HAP := Lib.hid hap
  have HX5 := Lib.hid (And.intro hb5 hs5)
  clear hap hl5 hb5 hk5 hen' hs5
  go_wp2_with fail
  refine HAP.out.mono ?_
  rintro e w6 ⟨rfl, F', bv', sv', hl6, hc6⟩
  have hw3F : ∀ k, F k → w.heap.size ≤ k := fun k hk => Nat.le_trans HX5.out.2 (HX4.out.2.2.2.1 k hk)
  have hw3E : ∀ k, lfoot L bv sv k → w.heap.size ≤ k := fun k hk => Nat.le_trans HX5.out.2 (HX4.out.2.2.2.2 k hk)
  have hb6 : Below w.heap.size w w6 := HX5.out.1.trans (hc6.below HX5.out.1.size (uf_own hw3F hw3E))
  have hown6 : ∀ k, uf F' (lfoot L bv' sv') k → w.heap.size ≤ k := fun k hk => by
    rcases hc6.foot k hk with h1 | h1
    · rcases h1 with h1 | h1
      · exact hw3F k h1
      · exact hw3E k h1
    · have := HX5.out.1.size; omega
  rw [app_new_eq 100 (by omega)] at hl6
  have hfin : (LM.new.push r1).fin = 15 := by
    show 1 + lenL [r1] = 15
    simp [lenL, r1_len]
  have hen6 := l_end hl6.mem
  rw [hfin] at hen6
  have hen6' : Calls Try.prog 15 #[.pointer (some ⟨L, 0, none⟩)] w6 fun e w' => e = .returned (.int .u64 15) ∧ ∃ k, w' = w6.drewN k := hen6
  have HX6 := Lib.hid (And.intro hl6 (And.intro hb6 hown6))
  have HFIN := Lib.hid hfin
  clear hl6 hc6 hw3F hw3E hb6 hown6 hfin hen6 HAP
  go_wp2_with fail
  refine hen6'.mono ?_
  rintro e w7 ⟨rfl, k7, hk7⟩
  clear hen6'
  have hl7 := HX6.out.1.drewN k7
  rw [← hk7] at hl7
  have hfo : Calls Try.prog 17 #[.pointer (some ⟨L, 0, none⟩)] w7 fun e w' => e = .returned (.int .u64 1) ∧ ∃ k, w' = w7.drewN k := l_forced hl7.mem
  have hb7 : Below w.heap.size w w7 := by rw [hk7]; exact below_drewN HX6.out.2.1 k7
  have HX7 := Lib.hid (And.intro hl7 hb7)
  clear hl7 hk7 hb7
  go_wp2_with fail
  refine hfo.mono ?_
  rintro e w8 ⟨rfl, k8, hk8⟩
  clear hfo
  have hl8 := HX7.out.1.drewN k8
  rw [← hk8] at hl8
  have hb8 : Below w.heap.size w w8 := by rw [hk8]; exact below_drewN HX7.out.2 k8
  have hfc := l_force w8 D L F' _ _ _ _ 1 hl8 (by show 1 < 4398046511104; omega) (by show 1 + 0 ≤ 1; omega)
  have hfc' : Calls Try.prog 18 #[.pointer (some ⟨L, 0, none⟩), .int .u64 1] w8 (ForceOut w8 D L F' { DM.new 1 100 with ops := 1, log := recB r1 1 } (LM.new.push r1) bv' sv') := hfc
  have HX8 := Lib.hid hb8
  clear hl8 hb8 hfc hk8
  go_wp2_with fail
  refine hfc'.mono ?_
  rintro e w9 (⟨h0, _⟩ | ⟨h0, rfl, F'', hl9, hc9⟩)
  · exact absurd (dm1_force 100) h0
  clear h0 hfc'
  have hb9 : Below w.heap.size w w9 := HX8.out.trans (hc9.below HX8.out.size (fun k hk h => by have := HX6.out.2.2 k h; omega))
  have hfo9 := l_forced hl9.mem
  have e9 : (LM.new.push r1).done.base + (LM.new.push r1).done.forced = 15 := HFIN.out
  rw [e9] at hfo9
  have hfo9' : Calls Try.prog 17 #[.pointer (some ⟨L, 0, none⟩)] w9 fun e w' => e = .returned (.int .u64 15) ∧ ∃ k, w' = w9.drewN k := hfo9
  have HX9 := Lib.hid (And.intro hl9 hb9)
  clear hl9 hc9 hb9 hfo9 e9
  go_wp2_with fail
  refine hfo9'.mono ?_
  rintro e wa ⟨rfl, ka, hka⟩
  clear hfo9'
  have hla := HX9.out.1.drewN ka
  rw [← hka] at hla
  have hba : Below w.heap.size w wa := by rw [hka]; exact below_drewN HX9.out.2 ka
  have hno : NoRec (LM.new.push r1).done 2 := by
    intro i hi
    have : i = 0 := by simp [LM.done, LM.push, LM.new] at hi; exact hi
    subst this
    show 1 + 0 ≠ 2
    omega
  have hrd := l_read_no wa D L (LM.new.push r1).done _ _ 2 hla.mem (by show 2 ≠ (LM.new.push r1).fin; rw [HFIN.out]; omega) hno
  have hrd' : Calls Try.prog 19 #[.pointer (some ⟨L, 0, none⟩), .int .u64 2] wa (ReadNo wa 1) := hrd
  have HXA := Lib.hid (And.intro hla hba)
  clear hla hba hno hrd hka
  go_wp2_with fail
  refine hrd'.mono ?_
  rintro e wb ⟨rfl, hbb⟩
  clear hrd'
  unfold noR
  obtain ⟨wc, hwc⟩ : ∃ wc, wb.alloc (.cells noCs 26) = wc := ⟨_, rfl⟩
  have hbc : Below wa.heap.size wa (wb.alloc (.cells noCs 26)) := hbb.alloc hbb.size _
  have hlc := HXA.out.1.below hbc
  have hre := l_read_end _ D L (LM.new.push r1).done _ _ hlc.mem
  have e9 : (LM.new.push r1).done.fin = 15 := HFIN.out
  rw [e9] at hre
  have hre' : Calls Try.prog 19 #[.pointer (some ⟨L, 0, none⟩), .int .u64 15] (wb.alloc (.cells #[.int .i64 0, .int .u64 0, .int .u64 0, .int .u64 0, .slice none 0 0, .slice none 0 0] 26)) (ReadNo (wb.alloc (.cells noCs 26)) 17) := hre
  have HRE := Lib.hid hre'
  have hbz := HXA.out.2.trans (hbc.mono HXA.out.2.size)
  have HBZ := Lib.hid (And.intro hbz hbz.size)
  clear hwc hbc hlc hre e9 hre' hbb hbz
  go_wp2_with fail
  refine HRE.out.mono ?_
  rintro e wd ⟨rfl, hbd⟩
  have hbd2 : Below w.heap.size w wd := HBZ.out.1.trans (hbd.mono HBZ.out.2)
  have HBD := Lib.hid (And.intro hbd2 hbd2.size)
  clear hbd hbd2
  unfold noR
  go_wp2
  go_ret
  exact ⟨rfl, HBD.out.1.alloc HBD.out.2 _⟩
end Mun
