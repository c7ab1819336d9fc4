/- Pin of chapter 8's own pool: a page that is read in. -/
import Derived.Test.YtjfepmohoijalaaGreatMgRd
set_option maxRecDepth 100000
set_option linter.unusedVariables false
set_option linter.unusedSimpArgs false
namespace Mun
open Go Go.RowKit
open Go.Proofs

section
variable {F : Foot} {w : World} {p : RP} {x : RPV}

theorem sc_other (g : Nat) : ∀ (vs : List Value) (o : Nat) (w : World) (k : Nat), k ≠ g → (w.setCells g o vs).heap[k]? = w.heap[k]?
  | [], _, _, _, _ => rfl
  | v :: vs, o, w, k, hk => by
    show ((w.setCell ⟨g, o, none⟩ v).setCells g (o + 1) vs).heap[k]? = _
    rw [sc_other g vs (o + 1) _ k hk, setCell_heap _ _ _ _ hk]

/-- the clock turns touches alone -/
theorem RClk.same {m : Nat} {fs : List RF} {h : Nat} {fs' : List RF} {h' i : Nat} (hc : RClk m fs h fs' h' i) : ∀ (j : Nat) (g' : RF), fs'[j]? = some g' → ∃ g, fs[j]? = some g ∧ g'.pg = g.pg ∧ g'.b = g.b ∧ g'.chg = g.chg ∧ g'.pins = g.pins := by
  induction hc with
  | stop hx hp ht => exact fun j g' hg => ⟨g', hg, rfl, rfl, rfl, rfl⟩
  | pin hx hp hc ih => exact ih
  | @tch k fs h x fs' h' i hx hp ht hc ih =>
    intro j g' hg
    obtain ⟨g, hg1, e1, e2, e3, e4⟩ := ih j g' hg
    rw [List.getElem?_set] at hg1
    by_cases hij : h = j
    · subst hij
      rw [if_pos rfl, if_pos (List.getElem?_eq_some_iff.1 hx).1] at hg1
      injection hg1 with hg1
      subst hg1
      exact ⟨x, hx, e1, e2, e3, e4⟩
    · rw [if_neg hij] at hg1
      exact ⟨g, hg1, e1, e2, e3, e4⟩
theorem RClk.ok {p : RP} (h : p.Ok) {m : Nat} {fr : List RF} {hd i : Nat} (hc : RClk m p.fr p.hand fr hd i) : ({ p with fr := fr, hand := hd } : RP).Ok := by
  obtain ⟨-, -, hl, hh⟩ := hc.lt
  have hm : ∀ f ∈ fr, ∃ g ∈ p.fr, f.pg = g.pg ∧ f.b = g.b ∧ f.chg = g.chg := fun f hf => by
    obtain ⟨j, hj, rfl⟩ := List.getElem_of_mem hf
    obtain ⟨g, hg, e1, e2, e3, -⟩ := hc.same j _ (List.getElem?_eq_getElem hj)
    exact ⟨g, List.mem_of_getElem? hg, e1, e2, e3⟩
  refine ⟨fun f hf h0 => ?_, fun f hf hcg => ?_, h.dk, by show hd < fr.length; omega, ⟨by show fr.length ≤ _; rw [hl]; exact h.sm.fr, h.sm.dt, h.sm.dk⟩⟩
  · obtain ⟨g, hg, e1, e2, e3⟩ := hm f hf
    rw [e1] at h0 ⊢
    rw [e2]
    exact h.fb g hg h0
  · obtain ⟨g, hg, e1, e2, e3⟩ := hm f hf
    rw [e1]
    exact h.fc g hg (by rw [← e3]; exact hcg)
theorem RFound.facts {p p1 : RP} {i : Nat} (h : p.Ok) (hf : RFound p p1 i) : p1.dk.length = p.dk.length ∧ p1.fr.length = p.fr.length ∧ i < p1.fr.length ∧ p1.Ok := by
  cases hf with
  | free hj => exact ⟨rfl, rfl, RP.find_lt hj, h⟩
  | clock hj hex hc =>
    obtain ⟨-, h1, h2, -⟩ := hc.lt
    refine ⟨RP.out_dkl _ _, (RP.out_frl _ _).trans h2, ?_, (hc.ok h).out _⟩
    rw [RP.out_frl]
    exact Nat.lt_of_lt_of_eq h1 h2.symm

/-- where the clock stands -/
def RClkR (F : Foot) (w : World) (B : Nat) (p : RP) (fr' : List RF) (h' i' : Nat) (wr : World) (k : Nat) : Prop :=
  ∃ fr h xq, RW F w B wr { p with fr := fr, hand := h } xq ∧ RClk k fr h fr' h' i' ∧ fr.length = p.fr.length

set_option maxHeartbeats 8000000 in
theorem rp_pin_new (h : RAt F w p x) (hok : p.Ok) (hF : ∀ k, F k → k < w.heap.size) (n : Nat) (hn : n < p.dk.length) (hi : p.find (n : Int) = none) {p1 : RP} {i : Nat} {b : Bytes} (hfd : RFound p p1 i) (hdk : p1.dk[n]? = some b) (hck : checkP b = 0) (hb5 : b.length = 512) :
    Calls Tryz.prog 33 #[.agg (rpcells p x), .int .i64 n] w (PinR F w { p1 with fr := p1.fr.set i (rfNew n b) } b 0) := by
  obtain ⟨w1, hw1, hb1, k0, k1, s1⟩ := rp_boxes w (rpcells p x) rfl
  have h1 := h.below hb1
  obtain ⟨cs, hcs⟩ : ∃ cs, rpcells p x = cs := ⟨_, rfl⟩
  have HI6 : Hid ((Tryz.prog.info? 36).map (·.size) = some cs.size) := by rw [← hcs]; exact info6
  have hcp : Calls Tryz.prog 74 #[.agg cs] w1 (CpPost (inF F w w1.heap.size) w1 p x) := by rw [← hcs]; exact rp_copied (h.inF hb1 _) hok.sm (inF_lt hF hb1)
  obtain ⟨ka, kc, ekv, -, -⟩ := h1.ks.form
  obtain ⟨kn, hkn⟩ : ∃ kn, x.ks.length = kn := ⟨_, rfl⟩
  rw [hkn] at ekv
  have hkd : kn = p.dk.length := by rw [← hkn, ← h.kps, List.length_map]
  have q3 : w1.cell? ⟨w.heap.size, 3, none⟩ = some (.slice ka kn kc) := k0.cell 3 (by simp [rpcells, ekv])
  have hn0 : ¬ (n : Int) < 0 := by omega
  have hn1 : (0 : Int) ≤ (n : Int) := by omega
  have hnk : (n : Int) < (kn : Int) := by omega
  rw [hcs] at hw1 k0 ⊢
  obtain ⟨post, hpost⟩ : ∃ post : Ending → World → Prop, post = PinR F w { p1 with fr := p1.fr.set i (rfNew n b) } b 0 := ⟨_, rfl⟩
  rw [← hpost]
  have HCP := Lib.hid hcp
  have HK0 := Lib.hid k0
  have HX := Lib.hid (And.intro h (And.intro hok (And.intro hF (And.intro hb1 (And.intro k1 (And.intro hcs (And.intro hpost (And.intro hi (And.intro hfd (And.intro hdk (And.intro hck hb5)))))))))))
  clear h hok hF hb1 k0 k1 s1 h1 hcs hpost hcp ekv hkn hkd hi hfd hdk hck hb5 hn
  unfold Z6 at hw1
  go_enter Tryz.func33, Tryz.ntmps33
  go_wp2_with (first | rw [hw1] | (refine wpList_load_row rfl _ _ rfl w.heap.size rfl _ _ (0, 0) _ HK0.out Tryz.underlying36 rfl HI6.out ?_))
  refine HCP.out.mono ?_
  rintro e w2 ⟨x1, rfl, hx1f, hx1k, ho2, hb2⟩
  obtain ⟨h, hok, hF, hb1, k1, hcs, hpost, hi, hfd, hdk, hck, hb5⟩ := HX.out
  obtain ⟨w3, hw3⟩ : ∃ w3, w2.setRow w.heap.size (rpcells p x1) = w3 := ⟨_, rfl⟩
  have h3 : RW F w w1.heap.size w3 p x1 := RW.start h hF hb1 (show PBox w1 w.heap.size (rpcells p x) by rw [hcs]; exact HK0.out) k1 ho2 hb2 hw3
  have hon1 := ho2.one
  have kb2 : PBox w2 w.heap.size cs := PBox.below HK0.out hb2 (PBox.lt HK0.out)
  have hfi := rp_find h3.rat hok.sm.fr (n : Int)
  have kb3 := h3.box
  have HSZ1 : Hid ((Tryz.prog.info? 36).map (·.size) = some (rpcells p x1).size) := rp_size p x1
  obtain ⟨cs1, hcs1⟩ : ∃ cs1, rpcells p x1 = cs1 := ⟨_, rfl⟩
  rw [hcs1] at hw3 hon1 HSZ1 hfi kb3 ⊢
  obtain ⟨B, hBd⟩ : ∃ B, w1.heap.size = B := ⟨_, rfl⟩
  rw [hBd] at h3
  have HKB2 := Lib.hid kb2
  have HON1 := Lib.hid hon1
  have HFI := Lib.hid hfi
  have HKB3 := Lib.hid kb3
  have H3 := Lib.hid (And.intro h3 (And.intro hcs1 hx1f))
  clear h hok hF hb1 k1 hcs hpost hi hfd hdk hck hb5 ho2 hb2 h3 hon1 kb2 hfi kb3 hcs1 hx1f hx1k HCP hBd hw1 q3
  go_wp2_with (first | (refine wpList_store_row rfl _ _ _ rfl w.heap.size _ rfl rfl _ _ HKB2.out HSZ1.out (by have h1 := HI6.out; have h2 := HSZ1.out; rw [info6] at h1 h2; injection h1 with h1; injection h2 with h2; omega) HON1.out ?_; rw [hw3]) | (refine wpList_load_row rfl _ _ rfl w.heap.size rfl _ _ (0, 0) _ HKB3.out Tryz.underlying36 rfl HSZ1.out ?_))
  refine HFI.out.mono ?_
  rintro e w4 ⟨rfl, hb4⟩
  obtain ⟨h3, hcs1, hx1f⟩ := H3.out
  obtain ⟨h, hok, hF, hb1, k1, hcs, hpost, hi, hfd, hdk, hck, hb5⟩ := HX.out
  have h4 := h3.below hb4
  rw [hi]
  simp only [idxV]
  have hfj := rp_find h4.rat hok.sm.fr (-1)
  have kb4 := h4.box
  rw [hcs1] at hfj kb4
  have HFJ := Lib.hid hfj
  have HKB4 := Lib.hid kb4
  have H4 := Lib.hid (And.intro h4 (And.intro hcs1 hx1f))
  clear h hok hF hb1 k1 hcs hpost hi hfd hdk hck hb5 h3 hb4 h4 hcs1 hx1f hfj kb4 H3 HKB3 HKB2 HON1 HFI
  go_wp2_with (first | (refine wpList_load_row rfl _ _ rfl w.heap.size rfl _ _ (0, 0) _ HKB4.out Tryz.underlying36 rfl HSZ1.out ?_))
  refine HFJ.out.mono ?_
  rintro e w5 ⟨rfl, hb5'⟩
  have H5 : Hid (RW F w B w5 p x1) := by obtain ⟨h4, -⟩ := H4.out; exact h4.below hb5'
  clear hb5' HFJ HKB4
  go_upto_if 56 with (fail)
  go_cut [7, 8, 9, 10, 11] (fun v _ _ _ _ wx => v = .int .i64 (i : Int) ∧ ∃ xq, RW F w B wx p1 xq)
  case first =>
    obtain ⟨h, hok, hF, hb1, k1, hcs, hpost, hi, hfd, hdk, hck, hb5⟩ := HX.out
    cases hfd with
    | free hj =>
      rw [hj]
      simp only [idxV]
      have HM : Hid (∃ xq, RW F w B w5 p xq) := ⟨x1, H5.out⟩
      have hi0 : ¬ (i : Int) < 0 := by omega
      clear h hok hF hb1 k1 hcs hpost hi hdk hck hb5 hj HX H5
      go_wp2
      go_meet
      exact ⟨rfl, HM.out⟩
    | @clock kc0 fr' h' _ hj hex hclk =>
      rw [hj]
      simp only [idxV]
      have HCL := Lib.hid (And.intro hok (And.intro hex hclk))
      clear h hok hF hb1 k1 hcs hpost hi hdk hck hb5 hj hex hclk HX
      have h5 := H5.out
      obtain ⟨fa, fc, efv, -, -⟩ := h5.rat.fs.form
      obtain ⟨m, hm⟩ : ∃ m, x1.fs.length = m := ⟨_, rfl⟩
      rw [hm] at efv
      have a0 : w5.cell? ⟨w.heap.size, 0, none⟩ = some (.slice fa m fc) := h5.box.cell 0 (by simp [rpcells, efv])
      have hpm : p.fr.length = m := by have := h5.len.1; omega
      have hm4 : (m : Int) ≤ 1024 := by have := HCL.out.1.sm.fr; omega
      have hm0 : (0 : Int) ≤ (m : Int) := by omega
      have HV := Lib.hid (And.intro efv (And.intro hm hpm))
      clear h5 efv hm hpm
      go_wp2_with fail
      go_loopw [8, 9] (fun a i0 wr => ∃ (k : Nat) (t : Bool), k ≤ m ∧ a = .bool t ∧ i0 = .int .i64 (k : Int) ∧ wr = w5 ∧ (t = true → ∀ (j : Nat) (f : RF), p.fr[j]? = some f → j < k → 0 < f.pins)) (fun _ i0 _ => m - (RowKit.intOf i0).toNat)
      case atStart => exact ⟨0, true, Nat.zero_le _, rfl, rfl, rfl, fun _ j f _ hj => absurd hj (by omega)⟩
      case round =>
        obtain ⟨k, t, hk, rfl, rfl, hwr, hno⟩ := hrel
        subst hwr
        have hk0 : (0 : Int) ≤ (k : Int) := by omega
        rcases Nat.lt_or_eq_of_le hk with hlt | heq
        · obtain ⟨efv, hm, hpm⟩ := HV.out
          have h5 := H5.out
          obtain ⟨f, hf⟩ : ∃ f, x1.fs[k]? = some f := ⟨_, List.getElem?_eq_getElem (by omega)⟩
          obtain ⟨g, off, c, e, hc⟩ := h5.rat.fcell hf
          rw [efv, hm] at e
          injection e with e1 e2 e3
          subst e1 e3
          have cj := hc 1 _ (by omega) rfl
          have hfp : p.fr[k]? = some f.1 := by rw [← h5.own.frs, List.getElem?_map, hf]; rfl
          obtain ⟨pn, hpn⟩ : ∃ pn, f.1.pins = pn := ⟨_, rfl⟩
          rw [hpn] at cj
          have hki : (k : Int) < (m : Int) := by omega
          have HLT := Lib.hid hlt
          cases t with
          | false =>
            have HNO := Lib.hid hlt
            clear h5 efv hm hpm hf hc hfp hpn hlt hk hno
            go_wp2
            go_roundw
            case rel => exact ⟨k + 1, false, by have := HLT.out; omega, by trivial, by go_num, by trivial, fun h => by cases h⟩
            case measure => have := HLT.out; simp [RowKit.intOf]; omega
          | true =>
            by_cases hp : 0 < pn
            · have HNO : Hid (∀ (j : Nat) (f' : RF), p.fr[j]? = some f' → j < k + 1 → 0 < f'.pins) := fun j f' hj hjk => by
                rcases Nat.lt_or_eq_of_le (Nat.le_of_lt_succ hjk) with h9 | h9
                · exact hno rfl j f' hj h9
                · subst h9
                  rw [hfp] at hj
                  injection hj with hj
                  rw [← hj, hpn]; exact hp
              have hpi : (0 : Int) < (pn : Int) := by omega
              clear h5 efv hm hpm hf hc hfp hpn hlt hk hno hp
              go_wp2
              go_roundw
              case rel => exact ⟨k + 1, true, by have := HLT.out; omega, by first | trivial | rw [decide_eq_true (by omega)], by go_num, by trivial, fun _ => HNO.out⟩
              case measure => have := HLT.out; simp [RowKit.intOf]; omega
            · have hp0 : pn = 0 := by omega
              subst hp0
              clear h5 efv hm hpm hf hc hfp hpn hlt hk hno hp
              go_wp2
              go_roundw
              case rel => exact ⟨k + 1, false, by have := HLT.out; omega, by trivial, by go_num, by trivial, fun h => by cases h⟩
              case measure => have := HLT.out; simp [RowKit.intOf]; omega
        · subst heq
          have ht : t = false := by
            cases t with
            | false => rfl
            | true =>
              exfalso
              obtain ⟨hok, ⟨g, hg, hg0⟩, hclk⟩ := HCL.out
              obtain ⟨j, hj, rfl⟩ := List.getElem_of_mem hg
              have := hno rfl j _ (List.getElem?_eq_getElem hj) (by have := HV.out.2.2; omega)
              omega
          subst ht
          have HV2 := Lib.hid HV.out.2.2
          have h0 : RClkR F w B p fr' h' i wr kc0 := ⟨p.fr, p.hand, x1, H5.out, HCL.out.2.2, rfl⟩
          have H0 := Lib.hid h0
          obtain ⟨wy, rfl⟩ : ∃ wy : World, wy = wr := ⟨_, rfl⟩
          clear hno hk HV h0 H5 H4
          go_wp2
          (try go_step3)
          (try go_wp2)
          clear a0
          go_loopw [10, 11] (fun _ _ wq => ∃ k, RClkR F w B p fr' h' i wq k) (fun _ _ wq => leastK (RClkR F w B p fr' h' i wq))
          case atStart => exact ⟨kc0, H0.out⟩
          case round =>
            have hk := leastK_spec _ hrel
            obtain ⟨mm, hmm⟩ : ∃ mm, leastK (RClkR F w B p fr' h' i wr) = mm := ⟨_, rfl⟩
            rw [hmm] at hk
            obtain ⟨frq, hd, xq, hq, hclk, hfl⟩ := hk
            obtain ⟨wq, rfl⟩ : ∃ wq : World, wq = wr := ⟨_, rfl⟩
            obtain ⟨hlt, -⟩ := hclk.lt
            obtain ⟨fv, hfv, hfv1⟩ := hq.rat.at_ (i := hd) hlt
            obtain ⟨fg, fc2, efv, hfg, hfcl, hfz⟩ := hq.own.fcell hfv
            obtain ⟨nn, hnn⟩ : ∃ nn, xq.fs.length = nn := ⟨_, rfl⟩
            have hnl : nn = frq.length := by rw [← hnn]; exact hq.len.1
            have hsm := HCL.out.1.sm.fr
            have efn : xq.fv = .slice (some ⟨fg, 0, none⟩) nn fc2 := by rw [← hnn]; exact efv
            have a0 : wq.cell? ⟨w.heap.size, 0, none⟩ = some (.slice (some ⟨fg, 0, none⟩) nn fc2) := hq.box.cell 0 (by simp [rpcells, efn])
            have a1 : wq.cell? ⟨w.heap.size, 1, none⟩ = some (.int .i64 (hd : Int)) := hq.box.cell 1 rfl
            have q0 : (0 : Int) ≤ (hd : Int) := by omega
            have q1 : (hd : Int) < (nn : Int) := by omega
            have q2 : (nn : Int) ≠ 0 := by omega
            have q3 : (nn : Int) ≤ 1024 := by omega
            have HW : Hid (wrap64 ((hd : Int) + 1) = (hd : Int) + 1) := by show _ = _; unfold wrap64; omega
            have hmod : ((hd : Int) + 1) % (nn : Int) = (((hd + 1) % nn : Nat) : Int) := by rw [Int.natCast_emod]; rfl
            have hbv := hq.own.fb fv (List.mem_of_getElem? hfv)
            obtain ⟨ba, bc, ebv, -, -⟩ := hbv.form
            obtain ⟨bn, hbn⟩ : ∃ bn, fv.1.b.length = bn := ⟨_, rfl⟩
            rw [hbn] at ebv
            obtain ⟨pg, hpg⟩ : ∃ pg, fv.1.pg = pg := ⟨_, rfl⟩
            obtain ⟨pn, hpn⟩ : ∃ pn, fv.1.pins = pn := ⟨_, rfl⟩
            obtain ⟨tc, htc⟩ : ∃ tc, fv.1.touch = tc := ⟨_, rfl⟩
            obtain ⟨ls, hls⟩ : ∃ ls, fv.1.lsn = ls := ⟨_, rfl⟩
            obtain ⟨cg, hcg⟩ : ∃ cg, fv.1.chg = cg := ⟨_, rfl⟩
            have hr6 : r6 fv = [.int .i64 pg, .int .i64 (pn : Int), .bool tc, .slice ba bn bc, .int .u64 (ls : Int), .bool cg] := by unfold r6; rw [hpg, hpn, htc, ebv, hls, hcg]
            have HRG : Hid (wq.rangeAt fg (hd * 6) [.int .i64 pg, .int .i64 (pn : Int), .bool tc, .slice ba bn bc, .int .u64 (ls : Int), .bool cg]) := fun j v hv => hfcl j v (by have := (List.getElem?_eq_some_iff.1 hv).1; exact this) (by rw [hr6]; exact hv)
            obtain ⟨w6, hw6⟩ : ∃ w6, wq.alloc (.cells Zf 79) = w6 := ⟨_, rfl⟩
            have f6 : w6.heap[wq.heap.size]? = some (.cells Zf 79 (0, 0)) := by rw [← hw6]; exact heap_alloc_new wq _
            have hb6 : Below wq.heap.size wq w6 := by rw [← hw6]; exact (Below.refl _ _).alloc (Nat.le_refl _) _
            obtain ⟨w7, hw7⟩ : ∃ w7, w6.setRow wq.heap.size #[.int .i64 pg, .int .i64 (pn : Int), .bool tc, .slice ba bn bc, .int .u64 (ls : Int), .bool cg] = w7 := ⟨_, rfl⟩
            have hb7 : Below wq.heap.size wq w7 := by rw [← hw7]; exact below_setRow hb6 (Nat.le_refl _) _
            have f7 : FBox w7 wq.heap.size fv := by
              unfold FBox
              rw [hr6, ← hw7]
              exact setRow_heap w6 _ _ _ _ _ f6
            have h7 := hq.below hb7
            have a70 : w7.cell? ⟨w.heap.size, 0, none⟩ = some (.slice (some ⟨fg, 0, none⟩) nn fc2) := h7.box.cell 0 (by simp [rpcells, efn])
            have a71 : w7.cell? ⟨w.heap.size, 1, none⟩ = some (.int .i64 (hd : Int)) := h7.box.cell 1 rfl
            have z71 := h7.box.frozen 1
            obtain ⟨w8, hw8⟩ : ∃ w8, w7.setCell ⟨w.heap.size, 1, none⟩ (.int .i64 (((hd : Int) + 1) % (nn : Int))) = w8 := ⟨_, rfl⟩
            have h8 : RW F w B w8 { p with fr := frq, hand := (hd + 1) % nn } xq := by
              rw [← hw8]
              exact h7.cellS 1 _ (by rw [hmod]; rfl) rfl rfl rfl
            have hbw : w.heap.size < wq.heap.size := hq.box.lt
            have f8 : FBox w8 wq.heap.size fv := f7.keep (by rw [← hw8]; exact setCell_heap _ _ _ _ (by simp only; omega))
            have t1 : w8.cell? ⟨wq.heap.size, 1, none⟩ = some (.int .i64 (pn : Int)) := f8.cell 1 (by rw [hr6]; rfl)
            have t2 : w8.cell? ⟨wq.heap.size, 2, none⟩ = some (.bool tc) := f8.cell 2 (by rw [hr6]; rfl)
            have a80 : w8.cell? ⟨w.heap.size, 0, none⟩ = some (.slice (some ⟨fg, 0, none⟩) nn fc2) := h8.box.cell 0 (by simp [rpcells, efn])
            obtain ⟨g8, c8', e8', hfg8, hcl8, hz8⟩ := h8.own.fcell hfv
            have eg8 : g8 = fg := by rw [efv] at e8'; injection e8' with e8'; injection e8' with e8'; injection e8' with e8'; exact e8'.symm
            rw [eg8] at hcl8 hz8 hfg8
            have c82 : w8.cell? ⟨fg, hd * 6 + 2, none⟩ = some (.bool tc) := hcl8 2 _ (by decide) (by rw [hr6]; rfl)
            have z82 := hz8 (hd * 6 + 2)
            obtain ⟨V1, V2, V3⟩ := hclk.inv hfv1
            have v1 : 0 < pn → ∃ k, mm = k + 1 ∧ RClk k frq ((hd + 1) % nn) fr' h' i := fun h1 => by rw [hnl]; exact V1 (by rw [hpn]; exact h1)
            have v2 : pn = 0 → tc = true → ∃ k, mm = k + 1 ∧ RClk k (frq.set hd { fv.1 with touch := false }) ((hd + 1) % nn) fr' h' i := fun h1 h2 => by rw [hnl]; exact V2 (hpn.trans h1) (htc.trans h2)
            have v3 : pn = 0 → tc = false → fr' = frq ∧ h' = (hd + 1) % nn ∧ i = hd := fun h1 h2 => by rw [hnl]; exact V3 (hpn.trans h1) (htc.trans h2)
            have HF6 := Lib.hid f6
            have HZ := Lib.hid (And.intro h8 (And.intro hfv (And.intro efv (And.intro hfl (And.intro hmm (And.intro v1 (And.intro v2 (And.intro v3 hfv1))))))))
            clear hq hclk hfl hmm hlt hfv hfv1 efv hfg hfcl hfz hnn hnl hsm efn hmod hbv ebv hbn hpg hpn htc hls hcg hr6 f6 hb6 hb7 f7 h7 h8 hbw f8 g8 c8' e8' hfg8 hcl8 hz8 eg8 v1 v2 v3 V1 V2 V3 hrel
            clear H0
            unfold Zf at hw6
            go_upto_if 94 with (first | (refine wpList_load_mid rfl _ _ rfl fg (hd * 6) rfl [.int .i64 pg, .int .i64 (pn : Int), .bool tc, .slice ba bn bc, .int .u64 (ls : Int), .bool cg] _ HRG.out Tryz.underlying79 rfl infoRF ?_) | rw [hw6] | (refine wpList_store_row rfl _ _ _ rfl wq.heap.size _ rfl rfl _ _ HF6.out infoRF rfl (by simp [Value.oneCell']) ?_; rw [hw7]))
            by_cases hp : 0 < pn
            · have hp' : (0 : Int) < (pn : Int) := by omega
              go_wp2
              go_roundw
              case rel =>
                obtain ⟨h8, hfv, efv, hfl, hmm, v1, v2, v3, -⟩ := HZ.out
                obtain ⟨k, rfl, hk⟩ := v1 hp
                exact ⟨k, _, _, _, h8, hk, hfl⟩
              case measure =>
                obtain ⟨h8, hfv, efv, hfl, hmm, v1, v2, v3, -⟩ := HZ.out
                obtain ⟨k, rfl, hk⟩ := v1 hp
                rw [hmm]
                exact Nat.lt_succ_of_le (leastK_le _ k ⟨_, _, _, h8, hk, hfl⟩)
            · have hp0 : pn = 0 := by omega
              subst hp0
              cases tc with
              | true =>
                obtain ⟨w9, hw9⟩ : ∃ w9, w8.setCell ⟨fg, hd * 6 + 2, none⟩ (.bool false) = w9 := ⟨_, rfl⟩
                clear hp
                have hZ : Hid (∃ k, mm = k + 1 ∧ RClkR F w B p fr' h' i w9 k) := by
                  obtain ⟨h8, hfv, efv, hfl, hmm, v1, v2, v3, hfv1⟩ := HZ.out
                  obtain ⟨k, rfl, hk⟩ := v2 rfl rfl
                  have h9 := h8.setF (i := hd) (k := 2) (f := fv) (f' := ({ fv.1 with touch := false }, fv.2)) (u := .bool false) hfv (by decide) (by rfl) (h8.own.fb fv (List.mem_of_getElem? hfv)) efv
                  rw [hw9] at h9
                  exact ⟨k, rfl, _, _, _, h9, hk, by rw [List.length_set]; exact hfl⟩
                go_wp2
                go_roundw
                case rel =>
                  obtain ⟨k, -, hk⟩ := hZ.out
                  exact ⟨k, hk⟩
                case measure =>
                  have hm := HZ.out.2.2.2.2.1
                  obtain ⟨k, rfl, hk⟩ := hZ.out
                  rw [hm]
                  exact Nat.lt_succ_of_le (leastK_le _ k hk)
              | false =>
                obtain ⟨h8, hfv, efv, hfl, hmm, v1, v2, v3, hfv1⟩ := HZ.out
                obtain ⟨e1, e2, e3⟩ := v3 rfl rfl
                subst e1 e2 e3
                have hok8 := HCL.out.2.2.ok HCL.out.1
                have hB8 := h8.Bsz (by have := (List.getElem?_eq_some_iff.1 hfv).1; omega)
                have hot := rp_out h8.rat hok8.sm (fun k hk => by have := h8.lo k hk; omega) i fv hfv (fun hc => hok8.outA (List.mem_of_getElem? hfv1) hc)
                have hbx8 := h8.box
                have hsz8 := rp_size ({ p with fr := fr', hand := (i + 1) % nn } : RP) xq
                obtain ⟨P8, hP8⟩ : ∃ P8 : RP, ({ p with fr := fr', hand := (i + 1) % nn } : RP) = P8 := ⟨_, rfl⟩
                rw [hP8] at hot h8 hsz8 hbx8
                obtain ⟨cs8, hcs8⟩ : ∃ cs8, rpcells P8 xq = cs8 := ⟨_, rfl⟩
                rw [hcs8] at hot hsz8 hbx8
                have HOT := Lib.hid hot
                have HSZ8 := Lib.hid hsz8
                have HBX8 := Lib.hid hbx8
                have H8 := Lib.hid (And.intro h8 (And.intro hB8 hcs8))
                have HP8 := Lib.hid hP8
                clear h8 hfv efv hfl hmm v1 v2 v3 hfv1 hok8 hB8 hot hbx8 hsz8 hcs8 HZ HCL hp hP8
                go_wp2_with (first | (refine wpList_load_row rfl _ _ rfl w.heap.size rfl _ _ (0, 0) _ HBX8.out Tryz.underlying36 rfl HSZ8.out ?_))
                refine HOT.out.mono ?_
                rintro e w10 ⟨x10, rfl, hb10, hcase⟩
                obtain ⟨h8, hB8, hcs8⟩ := H8.out
                have ho10 := h8.given hb10 hcase hB8
                obtain ⟨w11, hw11⟩ : ∃ w11, w10.setRow w.heap.size (rpcells (P8.out i) x10) = w11 := ⟨_, rfl⟩
                have h11 := h8.reset ho10 hb10
                rw [hw11] at h11
                have hbx10 : PBox w10 w.heap.size cs8 := by rw [← hcs8]; exact h8.box.below hb10 h8.box.lt
                have hsz10 := rp_size (P8.out i) x10
                have hon10 := ho10.one
                have HM : Hid (∃ xq, RW F w B w11 (P8.out i) xq) := ⟨x10, h11⟩
                obtain ⟨cs10, hcs10⟩ : ∃ cs10, rpcells (P8.out i) x10 = cs10 := ⟨_, rfl⟩
                rw [hcs10] at hw11 hsz10 hon10 ⊢
                have HSZ10 := Lib.hid hsz10
                have HON10 := Lib.hid hon10
                have HBX10 := Lib.hid hbx10
                clear h8 hB8 hcs8 ho10 h11 hbx10 hsz10 hon10 hcs10 hcase hb10 H8 HOT HBX8
                go_wp2_with (first | (refine wpList_store_row rfl _ _ _ rfl w.heap.size _ rfl rfl _ _ HBX10.out HSZ10.out (by have h1 := HSZ8.out; have h2 := HSZ10.out; rw [info6] at h1 h2; injection h1 with h1; injection h2 with h2; omega) HON10.out ?_; rw [hw11]))
                go_meet
                exact ⟨rfl, by rw [HP8.out]; exact HM.out⟩
  case rest =>
    obtain ⟨hv7, xq, hq⟩ := hcut
    obtain ⟨w6, rfl⟩ : ∃ w6 : World, w6 = wc := ⟨_, rfl⟩
    subst hv7
    obtain ⟨h, hok, hF, hb1, k1, hcs, hpost, hi, hfd, hdk, hck, hb5⟩ := HX.out
    obtain ⟨hdl, hfl, hil, hok1⟩ := hfd.facts hok
    have hxl := hq.len
    have hnl9 := (List.getElem?_eq_some_iff.1 hdk).1
    obtain ⟨qk, hqk⟩ : ∃ qk, xq.ks[n]? = some qk := ⟨_, List.getElem?_eq_getElem (by omega)⟩
    have hqb : qk.1 = b := by
      have h9 := hq.own.kps
      have h8 : p1.dk[n]? = some qk.1 := by rw [← h9, List.getElem?_map, hqk]; rfl
      rw [hdk] at h8
      injection h8 with h8
      exact h8.symm
    obtain ⟨kg, kc2, ekv2, hkg, hkc, hkz⟩ := hq.own.kcell hqk
    obtain ⟨kl, hkl⟩ : ∃ kl, xq.ks.length = kl := ⟨_, rfl⟩
    have d3 : w6.cell? ⟨w.heap.size, 3, none⟩ = some (.slice (some ⟨kg, 0, none⟩) kl kc2) := hq.box.cell 3 (by simp [rpcells, ekv2, hkl])
    have hnkl : (n : Int) < (kl : Int) := by omega
    have hrb := hq.own.kb qk (List.mem_of_getElem? hqk)
    rw [hqb] at hrb
    obtain ⟨ba, bc, ebv, -, -⟩ := hrb.form
    rw [hb5] at ebv
    have hcy := r5copy w6 qk.2 b hrb hb5
    rw [ebv] at hcy hkc
    obtain ⟨fv, hfv⟩ : ∃ fv, xq.fs[i]? = some fv := ⟨_, List.getElem?_eq_getElem (by omega)⟩
    obtain ⟨fg, fc, efv, hfg, hfcl, hfz⟩ := hq.own.fcell hfv
    obtain ⟨m, hm⟩ : ∃ m, xq.fs.length = m := ⟨_, rfl⟩
    have efm : xq.fv = .slice (some ⟨fg, 0, none⟩) m fc := by rw [← hm]; exact efv
    have him : (i : Int) < (m : Int) := by omega
    have hi0 : (0 : Int) ≤ (i : Int) := by omega
    have HCY := Lib.hid hcy
    have HQ := Lib.hid (And.intro hq (And.intro hfv (And.intro efv (And.intro hfg (And.intro hm (And.intro efm (And.intro hck (And.intro hb5 (And.intro hpost (And.intro hF hil))))))))))
    clear h hok hF hb1 k1 hcs hpost hi hfd hdk hck hb5 hdl hfl hil hok1 hxl hqk hqb ekv2 hkg hkz hkl hrb ebv hcy hfv efv hfg hfcl hfz hm efm hq HX H5 H4
    clear HK0 HI6 HSZ1
    go_wp2_with fail
    refine HCY.out.mono ?_
    rintro e w7 ⟨bg, bcap, rfl, hpw, hb7⟩
    obtain ⟨hq, hfv, efv, hfg, hm, efm, hck, hb5, hpost, hF, hil⟩ := HQ.out
    have h7 := hq.below hb7
    have hbg := hpw.lt
    have hxi : i < xq.fs.length := by omega
    obtain ⟨hth7, h8⟩ := h7.setFr hxi rfv0 (RdB.nil _ _) efv
    obtain ⟨w8, hw8⟩ : ∃ w8, w7.setCells fg (i * 6) (#[.int .i64 (-1), .int .i64 0, .bool false, .slice none 0 0, .int .u64 0, .bool false] : Array Value).toList = w8 := ⟨_, rfl⟩
    have hw8' : w7.setCells fg (i * 6) (r6 rfv0) = w8 := hw8
    rw [hw8'] at h8
    have a70 : w7.cell? ⟨w.heap.size, 0, none⟩ = some (.slice (some ⟨fg, 0, none⟩) m fc) := h7.box.cell 0 (by simp [rpcells, efm])
    have hfb : xq.fv.ownBlock = some fg := by rw [efv]; rfl
    have r7 : RdB (fun k => inF F w B k ∨ xq.blk k) w7 (.slice (some ⟨bg, 0, none⟩) 512 bcap) b := hpw.rd (fun h9 => by
      have hlo := hq.lo
      have hB := hq.Bsz (by omega)
      rcases h9 with h9 | h9 | h9 | h9
      · have := hlo _ h9; omega
      · have := (hq.own.fs.lt _ h9).2; omega
      · have := (hq.own.ds.lt _ h9).2; omega
      · have := (hq.own.ks.lt _ h9).2; omega)
    have r8 : RdB (fun k => inF F w B k ∨ xq.blk k) w8 (.slice (some ⟨bg, 0, none⟩) 512 bcap) b := RdV.keep r7 (fun k hk hn => by rw [← hw8']; exact sc_other _ _ _ _ _ (fun e => hn (.inr (.inl (by rw [hfb, e]))))) (fun _ _ h => h)
    have hckc := r5check w8 _ b r8
    rw [hck] at hckc
    obtain ⟨x8, hx8⟩ : ∃ x8 : RPV, { xq with fs := xq.fs.set i rfv0 } = x8 := ⟨_, rfl⟩
    rw [hx8] at h8
    have hx8f : x8.fv = .slice (some ⟨fg, 0, none⟩) m fc := by rw [← hx8]; exact efm
    have hx8l : x8.fs.length = m := by rw [← hx8, ← hm]; exact List.length_set
    have hx8b : ∀ k, x8.blk k ↔ xq.blk k := fun k => by rw [← hx8]; exact Iff.rfl
    have HT7 := Lib.hid hth7
    have HCK := Lib.hid hckc
    have H8 := Lib.hid (And.intro h8 (And.intro hx8 (And.intro hx8f (And.intro hx8l (And.intro hx8b (And.intro r8 (And.intro hfb (And.intro hb5 (And.intro hpost (And.intro hF hxi))))))))))
    clear hq hfv efv hfg hm efm hck hb5 hpost hF hil h7 hbg hxi hth7 h8 hw8' hfb r7 r8 hckc hx8 hx8f hx8l hx8b hpw hb7 d3 HQ HCY hkc
    go_wp2_with (first | (refine wpList_store_mid rfl _ _ _ rfl fg (i * 6) #[.int .i64 (-1), .int .i64 0, .bool false, .slice none 0 0, .int .u64 0, .bool false] (by simp [Act.eval, Act.put]) (by simp [Act.eval, Act.put]) HT7.out infoRF (by simp [Value.oneCell']) ?_; rw [hw8]))
    refine HCK.out.mono ?_
    rintro e w9 ⟨rfl, hb9⟩
    obtain ⟨h8, hx8, hx8f, hx8l, hx8b, r8, hfb, hb5, hpost, hF, hxi⟩ := H8.out
    have h9 := h8.below hb9
    have r9 : RdB (fun k => inF F w B k ∨ x8.blk k) w9 (.slice (some ⟨bg, 0, none⟩) 512 bcap) b := (RdB.mono r8 (fun k _ h9 => h9.imp id (hx8b k).1)).below hb9
    obtain ⟨hth9, h10⟩ := h9.setFr (i := i) (by omega) (rfNew n b, .slice (some ⟨bg, 0, none⟩) 512 bcap) r9 (c := fc) (by rw [hx8l]; exact hx8f)
    obtain ⟨w10, hw10⟩ : ∃ w10, w9.setCells fg (i * 6) (#[.int .i64 (n : Int), .int .i64 1, .bool true, .slice (some ⟨bg, 0, none⟩) 512 bcap, .int .u64 0, .bool false] : Array Value).toList = w10 := ⟨_, rfl⟩
    have hw10' : w9.setCells fg (i * 6) (r6 (rfNew n b, .slice (some ⟨bg, 0, none⟩) 512 bcap)) = w10 := hw10
    rw [hw10'] at h10
    have a90 : w9.cell? ⟨w.heap.size, 0, none⟩ = some (.slice (some ⟨fg, 0, none⟩) m fc) := h9.box.cell 0 (by simp [rpcells, hx8f])
    obtain ⟨P, hP⟩ : ∃ P : RP, { p1 with fr := p1.fr.set i (rfNew n b) } = P := ⟨_, rfl⟩
    obtain ⟨x10, hx10⟩ : ∃ x10 : RPV, { x8 with fs := x8.fs.set i (rfNew n b, .slice (some ⟨bg, 0, none⟩) 512 bcap) } = x10 := ⟨_, rfl⟩
    simp only [List.set_set] at h10
    rw [hP, hx10] at h10
    have r10 : RdB (fun k => inF F w B k ∨ x8.blk k) w10 (.slice (some ⟨bg, 0, none⟩) 512 bcap) b := RdV.keep r9 (fun k hk hn => by rw [← hw10']; exact sc_other _ _ _ _ _ (fun e => hn (.inr (.inl (by rw [e, hx8f]; rfl))))) (fun _ _ h => h)
    have h10d : RW F w B w10.drew P x10 := h10.below (below_drewN (Below.refl _ _) 1)
    have hcy2 := r5copy w10.drew _ b (r10.below (below_drewN (Below.refl _ _) 1)) hb5
    have hbx := h10d.box
    have hsz := rp_size P x10
    have hon := h10d.own.one
    have hrs := h10d.res
    obtain ⟨csq, hcsq⟩ : ∃ csq, rpcells P x10 = csq := ⟨_, rfl⟩
    rw [hcsq] at hbx hsz hon
    have HT9 := Lib.hid hth9
    have HCY2 := Lib.hid hcy2
    have HSZ := Lib.hid hsz
    have HON := Lib.hid hon
    have HRS := Lib.hid hrs
    have H10 := Lib.hid (And.intro h10d (And.intro hP (And.intro hcsq (And.intro hpost hF))))
    have hS0 : w10.drew.heap[w.heap.size]? = some (.cells csq 36 (0, 0)) := hbx
    clear h8 hx8 hx8f hx8l hx8b r8 hfb hb5 hpost hF hxi h9 r9 hth9 h10 hw10' hP hx10 r10 h10d hcy2 hbx hsz hon hrs hcsq hb9 H8 HCK HT7
    go_upto_region 32 with (first | (refine wpList_store_mid rfl _ _ _ rfl fg (i * 6) #[.int .i64 (n : Int), .int .i64 1, .bool true, .slice (some ⟨bg, 0, none⟩) 512 bcap, .int .u64 0, .bool false] (by simp [Act.eval, Act.put]) (by simp [Act.eval, Act.put]) HT9.out infoRF (by simp [Value.oneCell']) ?_; rw [hw10]))
    refine wp_region_U (fun W => W.heap[w.heap.size]? = some (.cells csq 36 (0, 0))) [] (by kernel_rfl) ?_
    refine wpAnyU_take (i := 0) [3, 4, 5] rfl (by as_aux_lemma => kernel_rfl) (by as_aux_lemma => kernel_rfl) (by as_aux_lemma => kernel_rfl) (by as_aux_lemma => kernel_rfl) (by as_aux_lemma => kernel_rfl) (by as_aux_lemma => kernel_rfl) (fun _ _ _ h => h) (yields_load_row (by rfl) _ _ rfl w.heap.size rfl _ _ (0, 0) _ (fun W hS => hS) Tryz.underlying36 rfl HSZ.out) hS0 ?_
    try simp only [Act.put, List.getElem_toArray, List.getElem_cons_succ, List.getElem_cons_zero, List.setIfInBounds_toArray, List.set_cons_zero, List.set_cons_succ]
    refine wpAnyU_take (i := 1) [2, 3, 4, 5] rfl (by as_aux_lemma => kernel_rfl) (by as_aux_lemma => kernel_rfl) (by as_aux_lemma => kernel_rfl) (by as_aux_lemma => kernel_rfl) (by as_aux_lemma => kernel_rfl) (by as_aux_lemma => kernel_rfl) (fun _ _ _ h => h) (Or.inl ⟨by rfl, (by intro W hSW; (try dsimp only at hSW); (try go_split_ands); go_simp <;> with_reducible rfl)⟩) hS0 ?_
    try simp only [Act.put, List.getElem_toArray, List.getElem_cons_succ, List.getElem_cons_zero, List.setIfInBounds_toArray, List.set_cons_zero, List.set_cons_succ]
    refine wpAnyU_one (i := 2) (by kernel_rfl) rfl (fun K hK => ?_)
    go_simp
    go_at_call 60
    (with_reducible refine HCY2.out.mono ?_)
    rintro e w11 ⟨cg, ccap, rfl, hpw, hb11⟩
    have hS1 : w11.heap[w.heap.size]? = some (.cells csq 36 (0, 0)) := (hb11.block _ (PBox.lt hS0)).trans hS0
    obtain ⟨w12, hw12⟩ : ∃ w12, w11.setRow (w.heap.size + 1) csq = w12 := ⟨_, rfl⟩
    have hS2 : w12.heap[w.heap.size]? = some (.cells csq 36 (0, 0)) := by rw [← hw12]; exact (setRow_ne _ _ _ _ (by omega)).trans hS1
    have HK11 : Hid (PBox w11 (w.heap.size + 1) Z6) := PBox.below HRS.out hb11 (PBox.lt HRS.out)
    have HFIN : Hid (PBox w12 (w.heap.size + 1) csq ∧ post (.returned (.tuple #[.agg csq, .slice (some ⟨cg, 0, none⟩) 512 ccap, .int .i64 0])) w12) := by
      obtain ⟨h10d, hP, hcsq, hpost, hF⟩ := H10.out
      have h11 := h10d.below hb11
      obtain ⟨w12', e12, k12, ho12, hb12⟩ := h11.ret
      rw [hcsq] at e12 k12
      rw [hw12] at e12
      subst e12
      refine ⟨k12, ?_⟩
      rw [hpost]
      refine ⟨x10, _, by rw [hP, hcsq], by rw [hP]; exact ho12.rat (fun _ h => h), hb12, ?_⟩
      have hbg := hpw.lt
      have hr := hpw.rd (F := fun k => F k ∨ k = w.heap.size + 1) (fun h9 => by
        have h1 := (PBox.lt HRS.out)
        rcases h9 with h9 | h9
        · have := hF _ h9; omega
        · omega)
      exact RdV.keep hr (fun k hk hn => by rw [← hw12]; exact setRow_ne _ _ _ _ (fun e => hn (.inr e))) (fun _ _ h => .inl h)
    clear hpw hb11
    refine hK.out _ _ (fun _ => hS1) (fun _ => ?_)
    clear hK K
    try simp only [Act.put, List.getElem_toArray, List.getElem_cons_succ, List.getElem_cons_zero, List.setIfInBounds_toArray, List.set_cons_zero, List.set_cons_succ]
    refine wpAnyU_one (i := 3) (by kernel_rfl) rfl (fun K hK => ?_)
    refine step_store_is rfl _ _ _ rfl (w.heap.size + 1) csq (by rfl) (by rfl) _ _ HK11.out HSZ.out (by have := HSZ.out; rw [info6] at this; injection this) HON.out ?_
    rw [hw12]
    refine hK.out _ _ (fun _ => hS2) (fun _ => ?_)
    clear hK K
    try simp only [Act.put, List.getElem_toArray, List.getElem_cons_succ, List.getElem_cons_zero, List.setIfInBounds_toArray, List.set_cons_zero, List.set_cons_succ]
    refine wpAnyU_take (i := 4) [5] rfl (by as_aux_lemma => kernel_rfl) (by as_aux_lemma => kernel_rfl) (by as_aux_lemma => kernel_rfl) (by as_aux_lemma => kernel_rfl) (by as_aux_lemma => kernel_rfl) (by as_aux_lemma => kernel_rfl) (fun _ _ _ h => h) (Or.inl ⟨by rfl, (by intro W hSW; (try dsimp only at hSW); (try go_split_ands); go_simp <;> with_reducible rfl)⟩) hS2 ?_
    try simp only [Act.put, List.getElem_toArray, List.getElem_cons_succ, List.getElem_cons_zero, List.setIfInBounds_toArray, List.set_cons_zero, List.set_cons_succ]
    refine wpAnyU_take (i := 5) [] rfl (by as_aux_lemma => kernel_rfl) (by as_aux_lemma => kernel_rfl) (by as_aux_lemma => kernel_rfl) (by as_aux_lemma => kernel_rfl) (by as_aux_lemma => kernel_rfl) (by as_aux_lemma => kernel_rfl) (fun _ _ _ h => h) (Or.inl ⟨by rfl, (by intro W hSW; (try dsimp only at hSW); (try go_split_ands); go_simp <;> with_reducible rfl)⟩) hS2 ?_
    try simp only [Act.put, List.getElem_toArray, List.getElem_cons_succ, List.getElem_cons_zero, List.setIfInBounds_toArray, List.set_cons_zero, List.set_cons_succ]
    refine wpAnyU_done (by kernel_rfl) ?_ _
    clear hS0 hS1 hS2 H10 HCY2
    go_wp2_with fail
    exact bodyPost_ret (v := .tuple #[.agg csq, .slice (some ⟨cg, 0, none⟩) 512 ccap, .int .i64 0]) (by simp [results, Tryz.results33, asAddr, Act.put, run_loadVar_row w12 (w.heap.size + 1) 36 36 _ (0, 0) _ HFIN.out.1 Tryz.underlying36 rfl HSZ.out]) rfl HFIN.out.2
end
end Mun
