/- The walk of WalBack. -/
import Derived.Test.YtoblajbffnkkiaaWalW
import Derived.Test.YtoblajbffnkkiaaBackP
set_option maxRecDepth 100000
set_option linter.unusedVariables false
set_option linter.unusedSimpArgs false
namespace Mun
open Go Go.RowKit
open Go.Proofs

theorem xor_bit (x : UInt8) (m : Nat) (hm : m < 8) : bits .xor .u8 (x.toNat : Int) ((2 ^ m : Nat) : Int) = ((x ^^^ UInt8.ofNat (2 ^ m)).toNat : Int) := by
  have hm2 : 2 ^ m < 256 := Nat.lt_of_lt_of_le (Nat.pow_lt_pow_right (by omega) hm) (by decide)
  rw [u8_xor_nat _ _ x.toNat_lt hm2, UInt8.toNat_xor, UInt8.toNat_ofNat', Nat.mod_eq_of_lt hm2]

/-- the law up to its bytes, where the record is refused -/
theorem back_no {F : Foot} (w : World) (r : PR) (x : RV) (lsn : Nat) (va vb : Value) (la lb : List UInt8) (bit : Int) (k : Int) (hk : (k != 0) = true)
    (hr : RecAt NoF w r x) (ha : RdB NoF w va la) (hb : RdB NoF w vb lb)
    (hby : ∀ W, Below w.heap.size w W → Calls Try.prog 10 #[rval r x, .int .u64 lsn] W fun e w' => e = .returned (.tuple #[.slice none 0 0, .int .i64 k]) ∧ Below W.heap.size W w') :
    Calls Try.prog 3 #[rval r x, .int .u64 lsn, va, vb, .int .i64 bit] w fun e w' => e = .returned (.bool true) ∧ Below w.heap.size w w' := by
  obtain ⟨da, dn, dc, ca, cn, cc, e1, e2, -⟩ := hr.open
  obtain ⟨a1, a2, rfl, -, -⟩ := ha.form
  obtain ⟨b1, b2, rfl, -, -⟩ := hb.form
  unfold rval at hby ⊢
  rw [e1, e2] at hby
  rw [e1, e2]
  have HBY := Lib.hid hby
  have haw := awake_any (w.alloc (.cells (rcs r (.slice da dn dc) (.slice ca cn cc)) 26))
  have HAW := Lib.hid haw
  clear hby e1 e2 hr ha hb haw
  go_enter Try.func3, Try.ntmps3
  go_wp2_with fail
  refine HAW.out.mono ?_
  rintro e w2 ⟨rfl, hb2⟩
  obtain ⟨c0, c1, c2, c3, c4, c5⟩ := box6 (w := w) (r := r) (box_at hb2)
  have HB2 : Hid (Below w.heap.size w w2) := ((Below.refl _ _).alloc (Nat.le_refl _) _).trans (hb2.mono (by simp))
  clear hb2
  go_wp2_with fail
  refine (HBY.out w2 HB2.out).mono ?_
  rintro e w3 ⟨rfl, hb3⟩
  have HB3 := Lib.hid (HB2.out.trans (hb3.mono HB2.out.size))
  clear hb3 c0 c1 c2 c3 c4 c5
  go_wp2
  go_ret
  exact ⟨rfl, HB3.out⟩

set_option maxHeartbeats 2000000 in
theorem back_ok (w : World) (r : PR) (x : RV) (lsn : Nat) (va vb : Value) (la lb : List UInt8) (bit : Int) (hls : lsn < 18446744073709551616) (hbit1 : -9223372036854775808 ≤ bit) (hbit2 : bit ≤ 9223372036854775807)
    (hr : RecAt NoF w r x) (ha : RdB NoF w va la) (hb : RdB NoF w vb lb) (hla : la.length ≤ 1048576) (hlb : lb.length ≤ 1048576) (hok : RecOk r) (hsz : szR r ≤ 4194304) :
    Calls Try.prog 3 #[rval r x, .int .u64 lsn, va, vb, .int .i64 bit] w fun e w' => e = .returned (.bool true) ∧ Below w.heap.size w w' := by
  obtain ⟨da, dn, dc, ca, cn, cc, e1, e2, -⟩ := hr.open
  obtain ⟨a1, an, a2, rfl, HAN, -, -⟩ := ha.formN
  obtain ⟨b1, bn, b2, rfl, HBN, -, -⟩ := hb.formN
  have hby := fun W (hb : Below w.heap.size w W) => bytes_ok W r x lsn hls (hr.below hb) hok.good hsz hok.big
  have hsame := fun (W : World) (y : RV) {G : Foot} (hb : Below w.heap.size w W) (hy : RecAt G W r y) => same_any W r y x hy (hr.below hb)
  have HHR := Lib.hid hr
  unfold rval at hby ⊢
  rw [e1, e2] at hby
  rw [e1, e2]
  have HBY := Lib.hid hby
  have HSM := Lib.hid (@hsame)
  have HE := Lib.hid (And.intro e1 e2)
  have haw := awake_any (w.alloc (.cells (rcs r (.slice da dn dc) (.slice ca cn cc)) 26))
  have HAW := Lib.hid haw
  have HA := Lib.hid ha
  have HB := Lib.hid hb
  have HLA := Lib.hid (And.intro hla hlb)
  have HOK := Lib.hid hok
  have HLS := Lib.hid hls
  have HBT := Lib.hid (And.intro hbit1 hbit2)
  have HSZ := Lib.hid hsz
  clear hby e1 e2 hr ha hb haw hla hlb hok hls hsame hbit1 hbit2 hsz
  go_enter Try.func3, Try.ntmps3
  go_wp2_with fail
  refine HAW.out.mono ?_
  rintro e w2 ⟨rfl, hb2⟩
  obtain ⟨c0, c1, c2, c3, c4, c5⟩ := box6 (w := w) (r := r) (box_at hb2)
  have HB2 : Hid (Below w.heap.size w w2 ∧ w2.heap[w.heap.size]? = some (.cells (rcs r (.slice da dn dc) (.slice ca cn cc)) 26 (0, 0))) := ⟨((Below.refl _ _).alloc (Nat.le_refl _) _).trans (hb2.mono (by simp)), box_at hb2⟩
  clear hb2
  go_wp2_with fail
  refine (HBY.out w2 HB2.out.1).mono ?_
  rintro e w3 ⟨g, n, c, rfl, HN, ho3, hb3⟩
  have hb03 := HB2.out.1.trans (hb3.mono HB2.out.1.size)
  have hz2 : w.heap.size < w2.heap.size := lt_of_block HB2.out.2
  have hnl : n = recLen r := by rw [HN.out, recB_len]
  have hnb : n ≤ 1048584 := by rw [hnl]; unfold recLen; have := HOK.out.big; omega
  have hn14 : 14 ≤ n := by rw [hnl]; exact recLen_pos r
  -- the bytes together
  have ha3 : RdB NoF w3 (.slice a1 an a2) la := HA.out.below hb03
  obtain ⟨g4, q4, w4, hr4, h41, h42, h43⟩ := append_empty_bytes (ty := 23) ha3 (by have := HLA.out.1; omega)
  rw [← HAN.out] at hr4 h41
  have hp4 : RdB NoF w4 (.slice (some ⟨g, 0, none⟩) n c) (recB r lsn) := RdB.below (ho3.rd (fun _ _ => noF _)) h42
  have hnp : (recB r lsn).length = n := HN.out.symm
  obtain ⟨v5, w5, hr5, h51, h52, h53, h54⟩ := append_bytes (ty := 23) h41 hp4 (by rw [hnp]; have := HLA.out.1; omega) h42.size
  obtain ⟨g5, n5, q5, rfl, HN5, -, -⟩ := OwnB.formN h51 (by rw [List.length_append, hnp]; omega)
  have hb35 : Below w3.heap.size w3 w5 := h42.grown h52 h42.size (fun k hk => (h41.lt k hk).1)
  have hb5 : RdB NoF w5 (.slice b1 bn b2) lb := (HB.out.below hb03).below hb35
  obtain ⟨v6, w6, hr6, h61, h62, h63, h64⟩ := append_bytes (ty := 23) h51 hb5 (by rw [List.length_append, hnp]; have := HLA.out.1; have := HLA.out.2; omega) hb35.size
  obtain ⟨g6, n6, q6, rfl, HN6, -, -⟩ := OwnB.formN h61 (by rw [List.length_append, List.length_append, hnp]; omega)
  have hb36 : Below w3.heap.size w3 w6 := hb35.grown h62 hb35.size (fun k hk => (h51.lt k hk).1)
  have hb06 : Below w.heap.size w w6 := hb03.trans (hb36.mono hb03.size)
  obtain ⟨l, hl⟩ : ∃ l, la ++ recB r lsn ++ lb = l := ⟨_, rfl⟩
  rw [hl] at h61 HN6
  have hdrop : l.drop an = recB r lsn ++ lb := by rw [← hl, List.append_assoc, List.drop_left' HAN.out.symm]
  have hpt := rec_parts l an r lsn lb hdrop HOK.out.big
  obtain ⟨s, hs⟩ : ∃ s, (bodyR r).length = s := ⟨_, rfl⟩
  have hns : n = 8 + s := by rw [hnl]; unfold recLen; rw [hs]
  have hs20 : s ≤ 1048576 := by rw [← hs]; exact HOK.out.big
  rw [hs] at hpt
  have hbd := body_ok' w6 _ l an lsn r HOK.out.good HOK.out.tx HOK.out.prev HOK.out.next (OwnB.rd (F := NoF) h61 (fun _ _ => noF _)) HLS.out (by rw [hpt.1]; exact hpt.2.2.2) (by rw [hpt.1]; exact hs20) (by
    rw [hpt.1, hpt.2.1, hpt.2.2.1]; exact ⟨rfl, rfl⟩)
  rw [hpt.1] at hbd
  have hw3s : w.heap.size ≤ w3.heap.size := hb03.size
  have HBW3 := Lib.hid hw3s
  have HR4 := Lib.hid hr4
  have HR5 := Lib.hid hr5
  have HR6 := Lib.hid hr6
  have HBD := Lib.hid hbd
  have H6 := Lib.hid h61
  have HB06 := Lib.hid hb06
  have HPT := Lib.hid hpt
  have HL := Lib.hid hl
  have HS := Lib.hid (And.intro hs (And.intro hns hs20))
  have HZ2 := Lib.hid hz2
  have HBX := Lib.hid (And.intro HB2.out.2 (And.intro hz2 (hb3.trans (hb36.mono hb3.size))))
  have m1 : (n : Int) ≤ 1048584 := by omega
  have m0 : (14 : Int) ≤ (n : Int) := by omega
  have m2 : (an : Int) ≤ 1048576 := by have := HLA.out.1; have := HAN.out; omega
  clear hr4 hr5 hr6 h41 h42 h43 hp4 hnp h51 h52 h53 h54 hb35 hb5 h61 h62 h63 h64 hb36 hb06 hl hdrop hpt hs hns hs20 hbd ho3 hb3 hb03 hw3s hz2 hnl hnb hn14 ha3 c0 c1 c2 c3 c4 c5
  go_wp2_with (first
    | (at_builtin; refine wpList_append_eq rfl rfl HR4.out rfl rfl ?_; clear HR4)
    | (at_builtin; refine wpList_append_eq rfl rfl HR5.out rfl rfl ?_; clear HR5)
    | (at_builtin; refine wpList_append_eq rfl rfl HR6.out rfl rfl ?_; clear HR6))
  refine HBD.out.mono ?_
  rintro e w7 ⟨y, rfl, hrec, hb7⟩
  obtain ⟨da', dn', dc', ca', cn', cc', e1, e2, -⟩ := hrec.open
  unfold rval
  rw [e1, e2]
  obtain ⟨w8, hw8⟩ : ∃ w8, w7.alloc (.cells #[.int .i64 r.kind, .int .u64 r.tx, .int .u64 r.prev, .int .u64 r.next, .slice da' dn' dc', .slice ca' cn' cc'] 26) = w8 := ⟨_, rfl⟩
  have hb68 : Below w6.heap.size w6 w8 := by rw [← hw8]; exact hb7.alloc hb7.size _
  have k8 : w8.heap[w7.heap.size]? = some (.cells (rcs r (.slice da' dn' dc') (.slice ca' cn' cc')) 26 (0, 0)) := by rw [← hw8]; exact heap_alloc_new w7 _
  obtain ⟨l2, hl2⟩ : ∃ l2, (lsn + 1) % 18446744073709551616 = l2 := ⟨_, rfl⟩
  have hl2b : l2 < 18446744073709551616 := by omega
  have v1 : IntKind.u64.wrap ((lsn : Int) + 1) = (l2 : Int) := by rw [IntKind.wrap_u64, ← hl2]; omega
  have h68 : OwnB w8 w3.heap.size 5 (.slice (some ⟨g6, 0, none⟩) n6 q6) l := H6.out.below hb68
  have hpt := HPT.out
  have hbs := body_sum w8 _ l an l2 (OwnB.rd (F := NoF) h68 (fun _ _ => noF _)) hl2b (by rw [hpt.1]; exact hpt.2.2.2) (by rw [hpt.1]; exact HS.out.2.2) (by
    rw [hpt.1, hpt.2.1, hpt.2.2.1]
    intro h
    have h9 := sum_next lsn HLS.out (bodyR r)
    rw [hl2] at h9
    exact h9 (BitVec.eq_of_toNat_eq h.symm))
  have HBS := Lib.hid hbs
  have H8 := Lib.hid (And.intro h68 (And.intro hb68 (And.intro k8 (hrec.below (show Below w7.heap.size w7 w8 by rw [← hw8]; exact (Below.refl _ _).alloc (Nat.le_refl _) _)))))
  have HE8 := Lib.hid (And.intro e1 e2)
  clear hrec hb7 e1 e2 hb68 k8 hl2 hl2b h68 hpt hbs HBD
  go_wp2_with fail
  clear hw8
  refine HBS.out.mono ?_
  rintro e w9 ⟨rfl, hb9⟩
  unfold noR
  obtain ⟨w10, hw10⟩ : ∃ w10, w9.alloc (.cells #[.int .i64 0, .int .u64 0, .int .u64 0, .int .u64 0, .slice none 0 0, .slice none 0 0] 26) = w10 := ⟨_, rfl⟩
  have hb810 : Below w8.heap.size w8 w10 := by rw [← hw10]; exact hb9.alloc hb9.size _
  have hb610 : Below w6.heap.size w6 w10 := H8.out.2.1.trans (hb810.mono H8.out.2.1.size)
  have hb010 : Below w.heap.size w w10 := HB06.out.trans (hb610.mono HB06.out.size)
  have k10 : w10.heap[w7.heap.size]? = some (.cells (rcs r (.slice da' dn' dc') (.slice ca' cn' cc')) 26 (0, 0)) := (hb810.block _ (lt_of_block H8.out.2.2.1)).trans H8.out.2.2.1
  have j10 : w10.heap[w.heap.size]? = some (.cells (rcs r (.slice da dn dc) (.slice ca cn cc)) 26 (0, 0)) :=
    (hb610.block _ (Nat.lt_of_lt_of_le HBX.out.2.1 HBX.out.2.2.size)).trans ((HBX.out.2.2.block _ HBX.out.2.1).trans HBX.out.1)
  obtain ⟨a0, a1', a2', a3, a4, a5⟩ := box6 (w := w) k10
  obtain ⟨b0, b1', b2', b3, b4, b5⟩ := box6 (w := w) j10
  have hsm := HSM.out w10 y hb010 (H8.out.2.2.2.below (show Below w8.heap.size w8 w10 from hb810))
  unfold rval at hsm
  rw [HE8.out.1, HE8.out.2, HE.out.1, HE.out.2] at hsm
  have h10 : OwnB w10 w3.heap.size 5 (.slice (some ⟨g6, 0, none⟩) n6 q6) l := H8.out.1.below hb810
  have HSM2 := Lib.hid hsm
  have H10 := Lib.hid (And.intro h10 hb010)
  have t1 : ((an : Int) + 8 + (s : Int) != (an : Int) + (n : Int)) = false := by have := HS.out.2.1; simp; omega
  have k9 : w10.heap[w9.heap.size]? = some (.cells noCs 26 (0, 0)) := by rw [← hw10]; exact heap_alloc_new w9 _
  have hself9 := setRow_self w10 w9.heap.size _ _ _ k9
  have HK9 := Lib.hid k9
  have HSELF9 := Lib.hid hself9
  clear hb9 hb810 hb610 hb010 k10 j10 hsm h10 k9 hself9
  go_upto_region 11 with (first | (refine wpList_store_row rfl _ _ _ rfl w9.heap.size noCs rfl rfl _ _ HK9.out infoR rfl noCs_one ?_; rw [HSELF9.out]) | (go_at_call 12; (with_reducible refine HSM2.out.mono ?_); rintro e w11 ⟨rfl, hb11⟩; have HB11 := Lib.hid hb11; clear hb11))
  clear a0 a1' a2' a3 a4 a5 b0 b1' b2' b3 b4 b5 t1 hw10
  go_upto_region 12 with fail
  have hpos : (0 : Int) < 8 * ((n : Int) - 4) := by omega
  have hK1 := Int.tmod_lt_of_pos bit hpos
  have hK2 := Int.lt_tmod_of_pos bit hpos
  generalize bit.tmod (8 * ((n : Int) - 4)) = K at hK1 hK2 ⊢
  have h11 : OwnB w11 w3.heap.size 5 (.slice (some ⟨g6, 0, none⟩) n6 q6) l := H10.out.1.below HB11.out
  have HR : ∃ kk : Nat, kk < 8 * (n - 4) ∧ (K = (kk : Int) ∨ (0 < kk ∧ K = -(kk : Int))) := ⟨K.natAbs, by omega, by omega⟩
  obtain ⟨kk, hkk, hKK⟩ := HR
  have hI : an + 4 + kk / 8 < l.length := by have := HPT.out.2.2.2; have := HS.out.2.1; omega
  obtain ⟨I, hIe⟩ : ∃ I, an + 4 + kk / 8 = I := ⟨_, rfl⟩
  rw [hIe] at hI
  have cI := h11.cellAt I hI
  have fI := h11.frozenAt (by omega) I
  obtain ⟨xb, hxb⟩ : ∃ xb, l[I] = xb := ⟨_, rfl⟩
  rw [hxb] at cI
  have e14 : (an : Int) + 4 + (kk : Int) / 8 = (I : Int) := by omega
  have e15 : (kk : Int) % 8 = ((kk % 8 : Nat) : Int) := by omega
  obtain ⟨mm, hmm⟩ : ∃ mm, kk % 8 = mm := ⟨_, rfl⟩
  rw [hmm] at e15
  have i0 : (0 : Int) ≤ (I : Int) := by omega
  have i1 : (I : Int) < (n6 : Int) := by have := HN6.out; omega
  have mm0 : (0 : Int) ≤ (mm : Int) := by omega
  have mm7 : (mm : Int) < 8 := by omega
  have hmm8 : mm < 8 := by omega
  have kk0 : (0 : Int) ≤ (kk : Int) := by omega
  have kkb : (kk : Int) ≤ 8388672 := by omega
  have hx : bits .xor .u8 (xb.toNat : Int) ((2 : Int) ^ mm % 256) = ((xb ^^^ UInt8.ofNat (2 ^ mm)).toNat : Int) := by
    have h1 := xor_bit xb mm hmm8
    have h2 : 2 ^ mm < 256 := Nat.lt_of_lt_of_le (Nat.pow_lt_pow_right (by omega) hmm8) (by decide)
    have h3 : ((2 : Int) ^ mm % 256) = ((2 ^ mm : Nat) : Int) := by
      have h4 : ((2 : Int) ^ mm) = ((2 ^ mm : Nat) : Int) := by push_cast; rfl
      obtain ⟨q, hq⟩ : ∃ q : Nat, 2 ^ mm = q := ⟨_, rfl⟩
      rw [h4, hq]
      rw [hq] at h2
      omega
    rw [h3]; exact h1
  have h12 := OwnB.set h11 (g := g6) rfl hI (xb ^^^ UInt8.ofNat (2 ^ mm)) _ hx
  obtain ⟨w12, hw12⟩ : ∃ w12, w11.setCell ⟨g6, I, none⟩ (.int .u8 (bits .xor .u8 (xb.toNat : Int) ((2 : Int) ^ mm % 256))) = w12 := ⟨_, rfl⟩
  have hb12 : Below w3.heap.size w11 w12 := by rw [← hw12]; exact (Below.refl _ _).setCell (h11.lt g6 rfl).1 _
  rw [hw12] at h12
  have hfl : l.set I (xb ^^^ UInt8.ofNat (2 ^ mm)) = flipBit (la ++ recB r lsn ++ lb) (8 * (la.length + 4) + kk) := by
    rw [HL.out, ← HAN.out]
    unfold flipBit
    have q1 : (8 * (an + 4) + kk) / 8 = I := by omega
    have q2 : (8 * (an + 4) + kk) % 8 = mm := by omega
    rw [q1, q2, List.getD_eq_getElem?_getD, List.getElem?_eq_getElem hI, hxb]
    rfl
  have hbf := back_flip la lb r lsn kk HOK.out.big (by rw [HS.out.1]; have := HS.out.2.1; omega) _ hfl
  rw [← HAN.out, HS.out.1] at hbf
  have hbs2 := body_sum w12 _ _ an lsn (OwnB.rd (F := NoF) h12 (fun _ _ => noF _)) HLS.out (by rw [hbf.1]; exact hbf.2.1) (by rw [hbf.1]; exact HS.out.2.2) (by rw [hbf.1]; exact hbf.2.2)
  have HBF := Lib.hid hbs2
  have hbfin : Below w.heap.size w w12 := (H10.out.2.trans (HB11.out.mono H10.out.2.size)).trans (hb12.mono HBW3.out)
  have HFIN := Lib.hid hbfin
  clear hpos h11 hkk hIe hxb hmm hx h12 hb12 hfl hbf hbs2 hbfin hI hmm8
  rcases hKK with rfl | ⟨hkpos, rfl⟩
  · have hnn : ¬ (kk : Int) < 0 := by omega
    clear hK1 hK2
    go_wp2_with fail
    clear hw12
    refine HBF.out.mono ?_
    rintro e w13 ⟨rfl, hb13⟩
    have HB13 := Lib.hid (And.intro (HFIN.out.trans (hb13.mono HFIN.out.size)) (HFIN.out.trans (hb13.mono HFIN.out.size)).size)
    clear hb13
    unfold noR
    go_wp2
    go_ret
    exact ⟨rfl, HB13.out.1.alloc HB13.out.2 _⟩
  · clear hK1 hK2
    have hnn : -(kk : Int) < 0 := by omega
    have hkp : (0 : Int) < (kk : Int) := by omega
    go_wp2_with fail
    clear hw12
    refine HBF.out.mono ?_
    rintro e w13 ⟨rfl, hb13⟩
    have HB13 := Lib.hid (And.intro (HFIN.out.trans (hb13.mono HFIN.out.size)) (HFIN.out.trans (hb13.mono HFIN.out.size)).size)
    clear hb13
    unfold noR
    go_wp2
    go_ret
    exact ⟨rfl, HB13.out.1.alloc HB13.out.2 _⟩
end Mun
