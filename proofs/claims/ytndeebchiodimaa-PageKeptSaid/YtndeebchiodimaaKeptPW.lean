/- The law PageKept: the walk. -/
import Derived.Test.YtndeebchiodimaaKeptPB
set_option maxRecDepth 100000
set_option linter.unusedVariables false
set_option linter.unusedSimpArgs false
namespace Mun
open Go Go.RowKit
open Go.Proofs

/-- a copy with a byte behind it, cut off again -/
theorem OwnB.cut {F : Foot} {w : World} {B g n cap : Nat} {p : PBytes} {b : UInt8} (h : OwnB w B 5 (.slice (some ⟨g, 0, none⟩) (n + 1) cap) (p ++ [b])) (hn : n = p.length) (hF : ¬ F g) :
    RdB F w (.slice (some ⟨g, 0, none⟩) n cap) p ∧ w.cell? ⟨g, n, none⟩ = some (.int .u8 (b.toNat : Int)) ∧ n + 1 ≤ cap := by
  subst hn
  have hc := h.cellAt p.length (by simp)
  rcases h.2 with ⟨h0, _⟩ | ⟨g', cap', cur, e, hbg, hg, h1, h2, h3, h4⟩
  · cases h0
  · injection e with e1 e2 e3
    injection e1 with e1
    injection e1 with e1 _ _
    subst e1 e3
    rw [List.length_append, List.length_singleton] at h1
    refine ⟨⟨by simp [bv], some ⟨g, 0, none⟩, cap, rfl, by omega, h2, by simp, fun _ => ⟨g, 0, cur, _, _, rfl, hF, hg, ?_⟩⟩, ?_, h1⟩
    · have := congrArg (List.take (p.length * 1)) h4
      rw [List.take_take] at this
      simp only [List.length_append, List.length_singleton, Nat.mul_one, List.drop_zero] at this ⊢
      rw [Nat.min_eq_left (by omega)] at this
      rw [this, bv_append]
      rw [← bv_length p, List.take_left]
    · simpa using hc

/-- x := append(append([]byte{}, p...), b)[:len(p)] -/
theorem copy_with {F : Foot} {w : World} {ty ty2 : TypeId} {s : Value} {p : PBytes} (hs : RdB F w s p) (hl : p.length + 1 ≤ 140737488355328) (n : Nat) (hn : n = p.length) (b : UInt8) (X : Int) (hX : X = b.toNat) :
    ∃ g cap w1 g2 cap2 w2, (Builtin.append_ #[22, 22] ty #[.slice (some ⟨w.heap.size, 0, none⟩) 0 0, s]).run Try.prog (w.alloc (.cells #[] 5)) = .ok (.slice (some ⟨g, 0, none⟩) n cap) w1 ∧
      (Builtin.append_ #[22, 22] ty2 #[.slice (some ⟨g, 0, none⟩) n cap, .slice (some ⟨w1.heap.size, 0, none⟩) 1 1]).run Try.prog (w1.alloc (.cells #[.int .u8 X] 5)) = .ok (.slice (some ⟨g2, 0, none⟩) (n + 1) cap2) w2 ∧
      OwnB w2 w.heap.size 5 (.slice (some ⟨g2, 0, none⟩) (n + 1) cap2) (p ++ [b]) ∧ Below w.heap.size w w2 := by
  subst hn
  obtain ⟨g, cap, w1, hr1, ho1, hb1, hg1⟩ := append_empty_bytes (ty := ty) hs (by omega)
  obtain ⟨g2, cap2, w2, hr2, ho2, hgr, _⟩ := append_byte (ty := ty2) b X hX ho1 hl hb1.size
  exact ⟨g, cap, w1, g2, cap2, w2, hr1, hr2, ho2, (hb1.alloc hb1.size _).grown hgr (by have := hb1.size; simp; omega) (fun k hk => (ho1.lt k hk).1)⟩

theorem RdV.form0 {F : Foot} {w : World} {size n : Nat} {v : Value} {xs : List Value} (h : RdV F w size v n xs) : ∃ a m c, v = .slice a m c ∧ m = n ∧ n ≤ c ∧ c ≤ maxLen := by
  obtain ⟨a, c, h1, h2, h3⟩ := h.form
  exact ⟨a, n, c, h1, rfl, h2, h3⟩

def okL (Ls : List PBytes) : Prop := ∀ L ∈ Ls, L.length ≤ 512

set_option maxHeartbeats 8000000 in
theorem keptp_ok (W : World) (v0 v2 : Value) (p c : List UInt8) (i : Int) (hv : RdB NoF W v0 p) (hc : RdB NoF W v2 c) (hpl : p.length ≤ 140737488351232) (hcl : c.length ≤ 140737488351232) :
    Calls Try.prog 10 #[v0, .int .i64 i, v2] W fun e W' => e = .returned (.bool true) ∧ Below W.heap.size W W' := by
  have HAW := Lib.hid (awake5 W)
  have HV := Lib.hid hv
  have HC := Lib.hid hc
  obtain ⟨a0, n0, c0, rfl, HN0, hlc0, hcm0⟩ := hv.formN
  obtain ⟨a2, n2, c2, rfl, HN2, hlc2, hcm2⟩ := hc.formN
  have hn0 : n0 ≤ 140737488351232 := by rw [HN0.out]; exact hpl
  have hn2 : n2 ≤ 140737488351232 := by rw [HN2.out]; exact hcl
  clear hv hc hpl hcl
  go_enter Try.func10, Try.ntmps10
  go_wp2_with fail
  refine HAW.out.mono ?_
  rintro e w1 ⟨rfl, hb1⟩
  obtain ⟨gx0, cx0, wx1, gx, cx, wx, hr1, hr2, hox, hbx⟩ := copy_with (ty := 22) (ty2 := 22) (RdB.below HV.out hb1) (by have := HN0.out; omega) n0 HN0.out 201 201 rfl
  have hxc := hox.cut (F := NoF) HN0.out (noF _)
  obtain ⟨gd0, cd0, wd1, gd, cd, wd, hr3, hr4, hod, hbd⟩ := copy_with (ty := 22) (ty2 := 22) (RdB.below HC.out (hb1.trans (hbx.mono hb1.size))) (by have := HN2.out; omega) n2 HN2.out 202 202 rfl
  have hdc := hod.cut (F := NoF) HN2.out (noF _)
  have hsx := slice_to (some ⟨gx, 0, none⟩) (n0 + 1) cx n0 (n0 : Int) rfl (by have := hxc.2.2; omega) (.inr ⟨_, _, rfl⟩)
  have hsd := slice_to (some ⟨gd, 0, none⟩) (n2 + 1) cd n2 (n2 : Int) rfl (by have := hdc.2.2; omega) (.inr ⟨_, _, rfl⟩)
  have HR1 := Lib.hid hr1
  have HR2 := Lib.hid hr2
  have HR3 := Lib.hid hr3
  have HR4 := Lib.hid hr4
  have hB0 : Below W.heap.size W wd := (hb1.trans (hbx.mono hb1.size)).trans (hbd.mono (by have := hb1.size; have := hbx.size; omega))
  have hX := RdB.below hxc.1 hbd
  have hxcell := (hbd.cell (p := ⟨gx, n0, none⟩) (hox.lt gx rfl).2).trans hxc.2.1
  have HX := Lib.hid (And.intro hX (And.intro hdc.1 (And.intro hB0 (And.intro hxcell (And.intro hdc.2.1 (And.intro hxc.2.2 (And.intro hdc.2.2 (And.intro (Nat.lt_of_lt_of_le (hox.lt gx rfl).2 hbd.size) (hod.lt gd rfl).2))))))))
  have HA0 := Lib.hid (OwnL.nil (Below.refl wd.heap.size wd))
  have h1 := insert_kept wd _ _ p c i hX hdc.1 (by have := HN2.out; omega)
  have H1 := Lib.hid h1
  clear hr1 hr2 hr3 hr4 hox hod hbx hbd hxc hdc hb1 hB0 hX hxcell h1
  go_wp2_with (first
    | (at_builtin; refine wpList_append_eq rfl rfl HR1.out rfl rfl ?_; clear HR1)
    | (at_builtin; refine wpList_append_eq rfl rfl HR2.out rfl rfl ?_; clear HR2)
    | (at_builtin; refine wpList_append_eq rfl rfl HR3.out rfl rfl ?_; clear HR3)
    | (at_builtin; refine wpList_append_eq rfl rfl HR4.out rfl rfl ?_; clear HR4))
  have HL0 : Hid (okL []) := fun L h => by simp at h
  refine H1.out.mono ?_
  rintro e w1k ⟨v1, r1, L1, rfl, ho, hb, hl⟩
  obtain ⟨b1, m1, cp1, rfl, -, -, -⟩ := (OwnB.rd (F := NoF) ho (fun _ _ => noF _)).formN
  have hA := HA0.out.snoc HA0.out.bl.size ho hb
  have hXk := RdB.below HX.out.1 hA.bl
  have hDk := RdB.below HX.out.2.1 hA.bl
  have h2 := remove_kept w1k _ p i hXk
  have HA1 := Lib.hid hA
  have HL1 : Hid (okL ([L1])) := by
    intro L hL
    rcases List.mem_append.1 (show L ∈ [] ++ [L1] from hL) with h | h
    · exact HL0.out L h
    · rw [List.mem_singleton.1 h]; exact hl
  have H2 := Lib.hid h2
  clear ho hb hl hA hXk hDk h2 H1 HA0 HL0
  go_wp2_with fail
  refine H2.out.mono ?_
  rintro e w2k ⟨v2, r2, L2, rfl, ho, hb, hl⟩
  obtain ⟨b2, m2, cp2, rfl, -, -, -⟩ := (OwnB.rd (F := NoF) ho (fun _ _ => noF _)).formN
  have hA := HA1.out.snoc HA1.out.bl.size ho hb
  have hXk := RdB.below HX.out.1 hA.bl
  have hDk := RdB.below HX.out.2.1 hA.bl
  have h3 := replace_kept w2k _ _ p c i hXk hDk (by have := HN2.out; omega)
  have HA2 := Lib.hid hA
  have HL2 : Hid (okL ([L1, L2])) := by
    intro L hL
    rcases List.mem_append.1 (show L ∈ [L1] ++ [L2] from hL) with h | h
    · exact HL1.out L h
    · rw [List.mem_singleton.1 h]; exact hl
  have H3 := Lib.hid h3
  clear ho hb hl hA hXk hDk h3 H2 HA1 HL1
  go_wp2_with fail
  refine H3.out.mono ?_
  rintro e w3k ⟨v3, r3, L3, rfl, ho, hb, hl⟩
  obtain ⟨b3, m3, cp3, rfl, -, -, -⟩ := (OwnB.rd (F := NoF) ho (fun _ _ => noF _)).formN
  have hA := HA2.out.snoc HA2.out.bl.size ho hb
  have hXk := RdB.below HX.out.1 hA.bl
  have hDk := RdB.below HX.out.2.1 hA.bl
  have h4 := compact_kept w3k _ p hXk
  have HA3 := Lib.hid hA
  have HL3 : Hid (okL ([L1, L2, L3])) := by
    intro L hL
    rcases List.mem_append.1 (show L ∈ [L1, L2] ++ [L3] from hL) with h | h
    · exact HL2.out L h
    · rw [List.mem_singleton.1 h]; exact hl
  have H4 := Lib.hid h4
  clear ho hb hl hA hXk hDk h4 H3 HA2 HL2
  go_wp2_with fail
  refine H4.out.mono ?_
  rintro e w4k ⟨v4, r4, L4, rfl, ho, hb, hl⟩
  obtain ⟨b4, m4, cp4, rfl, -, -, -⟩ := (OwnB.rd (F := NoF) ho (fun _ _ => noF _)).formN
  have hA := HA3.out.snoc HA3.out.bl.size ho hb
  have hXk := RdB.below HX.out.1 hA.bl
  have hDk := RdB.below HX.out.2.1 hA.bl
  have h5 := seal_kept w4k _ p 9 hXk
  have HA4 := Lib.hid hA
  have HL4 : Hid (okL ([L1, L2, L3, L4])) := by
    intro L hL
    rcases List.mem_append.1 (show L ∈ [L1, L2, L3] ++ [L4] from hL) with h | h
    · exact HL3.out L h
    · rw [List.mem_singleton.1 h]; exact hl
  have H5 := Lib.hid h5
  clear ho hb hl hA hXk hDk h5 H4 HA3 HL3
  go_wp2_with fail
  refine H5.out.mono ?_
  rintro e w5k ⟨v5, r5, L5, rfl, ho, hb, hl⟩
  obtain ⟨b5, m5, cp5, rfl, -, -, -⟩ := (OwnB.rd (F := NoF) ho (fun _ _ => noF _)).formN
  have hA := HA4.out.snoc HA4.out.bl.size ho hb
  have hXk := RdB.below HX.out.1 hA.bl
  have hDk := RdB.below HX.out.2.1 hA.bl
  have h6 := set_kept w5k _ p 1 2 hXk (by decide) (by decide)
  have HA5 := Lib.hid hA
  have HL5 : Hid (okL ([L1, L2, L3, L4, L5])) := by
    intro L hL
    rcases List.mem_append.1 (show L ∈ [L1, L2, L3, L4] ++ [L5] from hL) with h | h
    · exact HL4.out L h
    · rw [List.mem_singleton.1 h]; exact hl
  have H6 := Lib.hid h6
  clear ho hb hl hA hXk hDk h6 H5 HA4 HL4
  go_wp2_with fail
  refine H6.out.mono ?_
  rintro e w6k ⟨v6, r6, L6, rfl, ho, hb, hl⟩
  obtain ⟨b6, m6, cp6, rfl, -, -, -⟩ := (OwnB.rd (F := NoF) ho (fun _ _ => noF _)).formN
  have hA := HA5.out.snoc HA5.out.bl.size ho hb
  have hXk := RdB.below HX.out.1 hA.bl
  have hDk := RdB.below HX.out.2.1 hA.bl
  have h7 := cell_kept w6k _ p i hXk
  have HA6 := Lib.hid hA
  have HL6 : Hid (okL ([L1, L2, L3, L4, L5, L6])) := by
    intro L hL
    rcases List.mem_append.1 (show L ∈ [L1, L2, L3, L4, L5] ++ [L6] from hL) with h | h
    · exact HL5.out L h
    · rw [List.mem_singleton.1 h]; exact hl
  have H7 := Lib.hid h7
  clear ho hb hl hA hXk hDk h7 H6 HA5 HL5
  go_wp2_with fail
  refine H7.out.mono ?_
  rintro e w7k ⟨v7, r7, L7, rfl, ho, hb, hl⟩
  obtain ⟨b7, m7, cp7, rfl, -, -, -⟩ := (OwnB.rd (F := NoF) ho (fun _ _ => noF _)).formN
  have hA := HA6.out.snoc HA6.out.bl.size ho hb
  have hXk := RdB.below HX.out.1 hA.bl
  have hDk := RdB.below HX.out.2.1 hA.bl
  have h8 := cells_kept w7k _ p hXk
  have HA7 := Lib.hid hA
  have HL7 : Hid (okL ([L1, L2, L3, L4, L5, L6, L7])) := by
    intro L hL
    rcases List.mem_append.1 (show L ∈ [L1, L2, L3, L4, L5, L6] ++ [L7] from hL) with h | h
    · exact HL6.out L h
    · rw [List.mem_singleton.1 h]; exact hl
  have H8 := Lib.hid h8
  clear ho hb hl hA hXk hDk h8 H7 HA6 HL6
  go_wp2_with fail
  refine H8.out.mono ?_
  rintro e w8k ⟨u, r8, us, Us, rfl, hrow, hnew, hlen, hok⟩
  have hold : OwnL wd.heap.size wd w7k [.slice b1 m1 cp1, .slice b2 m2 cp2, .slice b3 m3 cp3, .slice b4 m4 cp4, .slice b5 m5 cp5, .slice b6 m6 cp6, .slice b7 m7 cp7] [L1, L2, L3, L4, L5, L6, L7] := HA7.out
  obtain ⟨v', w9k, hr9, hK, gl, cl, hv9⟩ := KeptR.make (ty := 28) HA7.out.bl.size hold hnew.bl hrow hnew (by intro x hx; simp only [List.mem_cons, List.not_mem_nil, or_false] at hx; rcases hx with rfl | rfl | rfl | rfl | rfl | rfl | rfl <;> rfl) (by simp) (by simp; omega)
  subst hv9
  change (Builtin.append_ #[28, 28] 28 #[u, .slice (some ⟨w8k.heap.size, 0, none⟩) 7 7]).run Try.prog (w8k.alloc (.cells #[.slice b1 m1 cp1, .slice b2 m2 cp2, .slice b3 m3 cp3, .slice b4 m4 cp4, .slice b5 m5 cp5, .slice b6 m6 cp6, .slice b7 m7 cp7] 22)) = .ok (.slice (some ⟨gl, 0, none⟩) (us.length + 7) cl) w9k at hr9
  change KeptR wd.heap.size wd w9k (.slice (some ⟨gl, 0, none⟩) (us.length + 7) cl) _ _ at hK
  obtain ⟨VS, hVS⟩ : ∃ VS, us ++ [.slice b1 m1 cp1, .slice b2 m2 cp2, .slice b3 m3 cp3, .slice b4 m4 cp4, .slice b5 m5 cp5, .slice b6 m6 cp6, .slice b7 m7 cp7] = VS := ⟨_, rfl⟩
  obtain ⟨LS, hLS⟩ : ∃ LS, Us ++ [L1, L2, L3, L4, L5, L6, L7] = LS := ⟨_, rfl⟩
  rw [hVS, hLS] at hK
  obtain ⟨N, hN⟩ : ∃ N, us.length + 7 = N := ⟨_, rfl⟩
  rw [hN] at hK hr9
  have HK : Hid (KeptR wd.heap.size wd w9k (.slice (some ⟨gl, 0, none⟩) N cl) VS LS ∧ VS.length = N ∧ okL LS ∧ N ≤ 128) := by
    refine ⟨hK, by rw [← hVS, ← hN]; simp, ?_, by omega⟩
    intro L hL
    rw [← hLS] at hL
    rcases List.mem_append.1 hL with h | h
    · exact hok L h
    · exact HL7.out L h
  have HR9 := Lib.hid hr9
  obtain ⟨au, nu, cu, rfl, -, -, -⟩ := (RdV.of_own (F := NoF) hrow (fun _ _ => noF _)).form0
  have hNb : N ≤ 128 := HK.out.2.2.2
  clear hold hK hr9 hrow hnew hlen hok hVS hLS hN H8 HL7 HA7
  go_wp2_with ((at_builtin; refine wpList_append_eq rfl rfl HR9.out rfl rfl ?_; clear HR9))
  have HN9 := Lib.hid hNb
  clear hsx hsd
  go_loopw [25] (fun sn wr => ∃ (k : Nat) (vs : List Value) (Ls : List PBytes), k ≤ N ∧ sn = .int .i64 (k : Int) ∧ KeptR wd.heap.size wd wr (.slice (some ⟨gl, 0, none⟩) N cl) vs Ls ∧ vs.length = N ∧ (∀ j, j < k → ∃ t, t ≤ 513 ∧ Ls[j]? = some (List.replicate t (UInt8.ofNat (j + 1)) ++ [99])) ∧ (∀ (j : Nat) (L : PBytes), Ls[j]? = some L → k ≤ j → L.length ≤ 513)) (fun sn _ => N - (intOf sn).toNat)
  case atStart => exact ⟨0, VS, LS, by omega, rfl, HK.out.1, HK.out.2.1, fun j hj => by omega, fun j L h _ => Nat.le_succ_of_le (HK.out.2.2.1 L (List.mem_of_getElem? h))⟩
  case round =>
    obtain ⟨k, vs, Ls, hk, rfl, hR, hvl, hD, hS⟩ := hrel
    rcases Nat.lt_or_eq_of_le hk with hlt | heq
    · have hkv : k < vs.length := by omega
      obtain ⟨v, hv⟩ : ∃ v, vs[k]? = some v := ⟨_, List.getElem?_eq_getElem hkv⟩
      obtain ⟨L, hL, hoL⟩ := hR.own.own k v hv
      obtain ⟨a, m, cp, rfl, HM, -, -⟩ := (OwnB.rd (F := NoF) hoL (fun _ _ => noF _)).formN
      have hcl := (hR.cell k _ hv).1
      have hmb : m ≤ 513 := by rw [HM.out]; exact hS k L hL (Nat.le_refl _)
      have hki : (k : Int) < (N : Int) := by omega
      have hk0 : (0 : Int) ≤ (k : Int) := by omega
      have HR := Lib.hid (And.intro hR (And.intro hvl (And.intro hD (And.intro hS (And.intro hlt (And.intro hv (And.intro hL hoL)))))))
      clear hk hR hvl hD hS hlt hkv hv hL hoL
      go_wp2
      go_loopw [26] (fun sm wr => ∃ (q : Nat) (L2 : PBytes) (Ls2 : List PBytes), q ≤ m ∧ sm = .int .i64 (q : Int) ∧ KeptR wd.heap.size wd wr (.slice (some ⟨gl, 0, none⟩) N cl) vs Ls2 ∧ Ls2[k]? = some L2 ∧ L2.length = m ∧ (∀ t, t < q → L2[t]? = some (UInt8.ofNat (k + 1))) ∧ (∀ j, j ≠ k → Ls2[j]? = Ls[j]?)) (fun sm _ => m - (intOf sm).toNat)
      case atStart => exact ⟨0, L, Ls, by omega, rfl, HR.out.1, HR.out.2.2.2.2.2.2.1, HM.out.symm, fun t ht => by omega, fun j _ => rfl⟩
      case round =>
        obtain ⟨q, L2, Ls2, hq, rfl, hR2, hL2, hl2, hE2, hO2⟩ := hrel
        have hrow := hR2.cell k _ HR.out.2.2.2.2.2.1
        obtain ⟨M, hM, hoM⟩ := hR2.own.own k _ HR.out.2.2.2.2.2.1
        rw [hL2] at hM
        injection hM with hM
        subst hM
        rcases Nat.lt_or_eq_of_le hq with hqlt | hqeq
        · obtain ⟨bb, cc, e, -, -, -, -, hcs, hfs⟩ := hoM.at_ (by omega)
          injection e with e1 e2 e3
          subst e1
          have hcb := hcs q (by omega)
          have hfb := hfs q
          have hput := hR2.put k bb q m cp L2 HR.out.2.2.2.2.2.1 hL2 (by omega) (UInt8.ofNat (k + 1)) ((k : Int) + 1) (by rw [UInt8.toNat_ofNat']; omega)
          have HP : Hid (KeptR wd.heap.size wd (wr.setCell ⟨bb, q, none⟩ (.int .u8 ((k : Int) + 1))) (.slice (some ⟨gl, 0, none⟩) N cl) vs (Ls2.set k (L2.set q (UInt8.ofNat (k + 1)))) ∧ (Ls2.set k (L2.set q (UInt8.ofNat (k + 1))))[k]? = some (L2.set q (UInt8.ofNat (k + 1))) ∧ (L2.set q (UInt8.ofNat (k + 1))).length = m ∧ (∀ t, t < q + 1 → (L2.set q (UInt8.ofNat (k + 1)))[t]? = some (UInt8.ofNat (k + 1))) ∧ (∀ j, j ≠ k → (Ls2.set k (L2.set q (UInt8.ofNat (k + 1))))[j]? = Ls[j]?) ∧ q < m) := by
            have hkl : k < Ls2.length := by
              rcases Nat.lt_or_ge k Ls2.length with h | h
              · exact h
              · rw [List.getElem?_eq_none h] at hL2; cases hL2
            refine ⟨hput, by rw [List.getElem?_set_self hkl], by rw [List.length_set]; exact hl2, fun t ht => ?_, fun j hj => by rw [List.getElem?_set_ne (Ne.symm hj)]; exact hO2 j hj, hqlt⟩
            by_cases htq : t = q
            · subst htq; rw [List.getElem?_set_self (by omega)]
            · rw [List.getElem?_set_ne (Ne.symm htq)]; exact hE2 t (by omega)
          have hqi : (q : Int) < (m : Int) := by omega
          have hq0 : (0 : Int) ≤ (q : Int) := by omega
          have hr1 := hrow.1
          obtain ⟨zb, hzb⟩ : ∃ zb : Int, zb = ((L2[q]'(by omega)).toNat : Int) := ⟨_, rfl⟩
          rw [← hzb] at hcb
          clear hzb hR2 hL2 hE2 hO2 hoM hcs hfs hput hqlt hq hrow hcl e2 e3 hl2
          go_wp2
          go_roundw
          case rel => exact ⟨q + 1, _, _, by have := HP.out.2.2.2.2.2; omega, by go_num, HP.out.1, HP.out.2.1, HP.out.2.2.1, HP.out.2.2.2.1, HP.out.2.2.2.2.1⟩
          case measure => have := HP.out.2.2.2.2.2; simp [intOf]; omega
        · subst hqeq
          have hrep : L2 = List.replicate q (UInt8.ofNat (k + 1)) := by
            apply List.ext_getElem?
            intro t
            rw [List.getElem?_replicate]
            split
            · exact hE2 t (by omega)
            · exact List.getElem?_eq_none (by omega)
          obtain ⟨b9, cap9, w9, hr9, ⟨u9, hc9⟩, hf9, hK9⟩ := hR2.more (ty := 22) hR2.own.bl.size k _ L2 HR.out.2.2.2.2.2.1 hL2 (by omega) 99 99 rfl
          rw [hl2] at hr9 hK9
          have hr1 := hrow.1
          have HR9 := Lib.hid hr9
          have HK9 : Hid (KeptR wd.heap.size wd (w9.setCell ⟨gl, k, none⟩ (.slice (some ⟨b9, 0, none⟩) (q + 1) cap9)) (.slice (some ⟨gl, 0, none⟩) N cl) (vs.set k (.slice (some ⟨b9, 0, none⟩) (q + 1) cap9)) (Ls2.set k (L2 ++ [99])) ∧ (vs.set k (.slice (some ⟨b9, 0, none⟩) (q + 1) cap9)).length = N ∧ (∀ j, j < k + 1 → ∃ t, t ≤ 513 ∧ (Ls2.set k (L2 ++ [99]))[j]? = some (List.replicate t (UInt8.ofNat (j + 1)) ++ [99])) ∧ (∀ (j : Nat) (L : PBytes), (Ls2.set k (L2 ++ [99]))[j]? = some L → k + 1 ≤ j → L.length ≤ 513) ∧ k < N) := by
            have hkl : k < Ls2.length := by
              rcases Nat.lt_or_ge k Ls2.length with h | h
              · exact h
              · rw [List.getElem?_eq_none h] at hL2; cases hL2
            refine ⟨hK9, by rw [List.length_set]; exact HR.out.2.1, fun j hj => ?_, fun j M hM hkj => ?_, HR.out.2.2.2.2.1⟩
            · by_cases hjk : j = k
              · subst hjk
                exact ⟨q, hmb, by rw [List.getElem?_set_self hkl, hrep]⟩
              · obtain ⟨t, htb, ht⟩ := HR.out.2.2.1 j (by omega)
                exact ⟨t, htb, by rw [List.getElem?_set_ne (Ne.symm hjk), hO2 j hjk]; exact ht⟩
            · rw [List.getElem?_set_ne (by omega), hO2 j (by omega)] at hM
              exact HR.out.2.2.2.1 j M hM (by omega)
          clear hR2 hL2 hE2 hO2 hoM hr9 hK9 hrow hrep hcl hl2
          go_wp2_with ((at_builtin; refine wpList_append_eq rfl rfl HR9.out rfl rfl ?_; clear HR9))
          go_roundw
          case rel => exact ⟨k + 1, _, _, by have := HK9.out.2.2.2.2; omega, by go_num, HK9.out.1, HK9.out.2.1, HK9.out.2.2.1, HK9.out.2.2.2.1⟩
          case measure => have := HK9.out.2.2.2.2; simp [intOf]; omega
    · subst heq
      have HR := Lib.hid (And.intro hR (And.intro hvl hD))
      clear hR hvl hD hS hk
      go_wp2
      go_loop [27] (fun sn => ∃ j : Nat, j ≤ k ∧ sn = .int .i64 (j : Int)) (fun sn => k - (intOf sn).toNat)
      case atStart => exact ⟨0, by omega, rfl⟩
      case round =>
        obtain ⟨j, hj, rfl⟩ := hrel
        rcases Nat.lt_or_eq_of_le hj with hlt | heq
        · obtain ⟨t, htb, ht⟩ := HR.out.2.2 j hlt
          obtain ⟨v, hv⟩ : ∃ v, vs[j]? = some v := ⟨_, List.getElem?_eq_getElem (by rw [HR.out.2.1]; exact hlt)⟩
          obtain ⟨M, hM, hoM⟩ := HR.out.1.own.own j v hv
          rw [ht] at hM
          injection hM with hM
          subst hM
          obtain ⟨bb, cc, rfl, -, -, -, -, hcs, -⟩ := hoM.at_ (by simp)
          have hjb : j + 1 < 256 := by omega
          have hcq : ∀ q, q < t → wr.cell? ⟨bb, q, none⟩ = some (.int .u8 ((j : Int) + 1)) := by
            intro q hq
            have h1 := hcs q (by simp; omega)
            rw [List.getElem_append_left (by simpa using hq), List.getElem_replicate, UInt8.toNat_ofNat', Nat.mod_eq_of_lt hjb] at h1
            exact h1
          have hlen : (List.replicate t (UInt8.ofNat (j + 1)) ++ [(99 : UInt8)]).length = t + 1 := by simp
          have hcl := (HR.out.1.cell j _ hv).1
          rw [hlen] at hcl
          have HCQ := Lib.hid hcq
          have HLT := Lib.hid hlt
          have hji : (j : Int) < (k : Int) := by omega
          have hj0 : (0 : Int) ≤ (j : Int) := by omega
          clear hcs hoM hv hcq hlen ht hjb hj hlt
          go_wp2
          go_loop [28] (fun sm => ∃ q : Nat, q ≤ t ∧ sm = .int .i64 (q : Int)) (fun sm => t - (intOf sm).toNat)
          case atStart => exact ⟨0, by omega, rfl⟩
          case round =>
            obtain ⟨q, hq, rfl⟩ := hrel
            rcases Nat.lt_or_eq_of_le hq with hqlt | hqeq
            · have hc1 := HCQ.out q hqlt
              have hqi : (q : Int) < (t : Int) := by omega
              have hq0 : (0 : Int) ≤ (q : Int) := by omega
              have HQ := Lib.hid hqlt
              clear hq hqlt
              go_wp2
              go_round
              case rel => exact ⟨q + 1, by have := HQ.out; omega, by go_num⟩
              case measure => have := HQ.out; simp [intOf]; omega
            · subst hqeq
              clear hq
              go_wp2
              go_round
              case rel => exact ⟨j + 1, by have := HLT.out; omega, by go_num⟩
              case measure => have := HLT.out; simp [intOf]; omega
        · subst heq
          have hbl := HR.out.1.own.bl
          have hX := HX.out
          have cv1 := str_bytes (F := NoF) (RdB.below hX.1 hbl)
          have cv2 := str_bytes (F := NoF) (RdB.below hX.2.1 hbl)
          have hBf : Below W.heap.size W wr := hX.2.2.1.trans (hbl.mono hX.2.2.1.size)
          have cv3 := str_bytes (F := NoF) (RdB.below HV.out hBf)
          have cv4 := str_bytes (F := NoF) (RdB.below HC.out hBf)
          have tp : ((strOf p).toList == (strOf p).toList) = true := by simp
          have tc : ((strOf c).toList == (strOf c).toList) = true := by simp
          have e1 : wr.cell? ⟨gx, n0, none⟩ = some (.int .u8 201) := (hbl.cell (p := ⟨gx, n0, none⟩) hX.2.2.2.2.2.2.2.1).trans hX.2.2.2.1
          have e2 : wr.cell? ⟨gd, n2, none⟩ = some (.int .u8 202) := (hbl.cell (p := ⟨gd, n2, none⟩) hX.2.2.2.2.2.2.2.2).trans hX.2.2.2.2.1
          have hsx := slice_to (some ⟨gx, 0, none⟩) n0 cx (n0 + 1) ((n0 : Int) + 1) (by push_cast; rfl) hX.2.2.2.2.2.1 (.inr ⟨_, _, rfl⟩)
          have hsd := slice_to (some ⟨gd, 0, none⟩) n2 cd (n2 + 1) ((n2 : Int) + 1) (by push_cast; rfl) hX.2.2.2.2.2.2.1 (.inr ⟨_, _, rfl⟩)
          have HBF := Lib.hid hBf
          clear hbl hX hBf hj
          go_wp2
          go_ret
          exact ⟨rfl, HBF.out⟩
end Mun
