/- Contract of a pool's found. -/
import Derived.Test.YtjfepmohoijalaaPoolB
import Derived.Test.YtjfepmohoijalaaRegU
import Derived.Deep.QuietTactic
import Derived.BigQuiet
import Derived.Deep.DeepCutAuto
import Derived.WalkMore
set_option maxRecDepth 100000
set_option linter.unusedVariables false
set_option linter.unusedSimpArgs false
namespace Mun
open Go Go.RowKit
open Go.Proofs

/-- a pool's frames and hand turned: F is what it turns and reads nothing of -/
theorem PRep.touch {w w' : World} {Pb D L : Nat} {F : Foot} {p : PM} {v : PLV} (h : PRep w Pb D L F p v) (hF : ∀ k, pfoot Pb v k → F k) (hk : ∀ k, k < w.heap.size → ¬ F k → w'.heap[k]? = w.heap[k]?) {fs : List FV} {hand : Nat}
    (hb : w'.heap[Pb]? = some (.cells (pcells D L { v with fs := fs } hand) 53 (0, 0))) (hG : w'.heap[v.G]? = some (.cells (fcells fs).toArray 58 (0, 0)))
    (hs : SameFs v.fs fs) (hMw : w'.heap[v.Mw]? = w.heap[v.Mw]?) (hMd : w'.heap[v.Md]? = w.heap[v.Md]?) (hh : hand < v.fs.length) :
    PRep w' Pb D L F { p with fr := fs.map (·.1), hand := hand } { v with fs := fs } := by
  refine ⟨hb, hG, rfl, fun x hx => ?_, h.mp.keep hMw, h.mok.frames fun i => ?_, h.dm.keep hMd, h.dlk, h.ne, by show hand < fs.length; rw [hs.1]; exact hh, by show fs.length ≤ 1024; rw [hs.1]; exact h.big⟩
  · obtain ⟨i, hi, rfl⟩ := List.getElem_of_mem hx
    have hi' : i < v.fs.length := by rw [← hs.1]; exact hi
    obtain ⟨y, hy, e1, e2, e3, e4, e5⟩ := hs.2 i v.fs[i] (List.getElem?_eq_getElem hi')
    rw [List.getElem?_eq_getElem hi] at hy
    injection hy with hy
    rw [hy, e5, e2]
    exact RdV.keep (h.rd _ (List.getElem_mem hi')) hk (fun _ _ h => h)
  · cases hf : v.fs[i]? with
    | none =>
      rw [List.getElem?_eq_none_iff] at hf
      rw [List.getElem?_eq_none (by rw [hs.1]; exact hf)]
    | some x =>
      obtain ⟨y, hy, e1, e2, e3, e4, e5⟩ := hs.2 i x hf
      rw [hy]
      simp [e1]

/-- what found comes to -/
inductive FoundIs (p : PM) (v : PLV) : Int → PM → PLV → Prop
  | free {i : Nat} {x : FV} : v.fs[i]? = some x → x.1.pg < 0 → (∀ (j : Nat) (y : FV), v.fs[j]? = some y → j < i → 0 ≤ y.1.pg) → FoundIs p v i p v
  | full : (∀ x ∈ v.fs, 0 ≤ x.1.pg) → (∀ x ∈ v.fs, 0 < x.1.pins) → FoundIs p v (-1) p v
  | clock {k : Nat} {fs : List FV} {h i : Nat} : (∀ x ∈ v.fs, 0 ≤ x.1.pg) → ClockN k v.fs p.hand fs h i → FoundIs p v i { p with fr := fs.map (·.1), hand := h } { v with fs := fs }

def FoundOut (w : World) (Pb D L : Nat) (F : Foot) (p : PM) (v : PLV) (e : Ending) (w' : World) : Prop :=
  ∃ r p' v', FoundIs p v r p' v' ∧ e = .returned (.int .i64 r) ∧ PRep w' Pb D L F p' v' ∧ Chg (pfoot Pb v) (pfoot Pb v) w w'

theorem chg_drew {F : Foot} (w : World) : Chg F F w w.drew := ⟨rfl, rfl, rfl, Nat.le_refl _, fun _ _ _ => rfl, fun _ h => .inl h⟩
theorem ClockN.inv {m : Nat} {fs : List FV} {h : Nat} {fs' : List FV} {h' i : Nat} (hc : ClockN m fs h fs' h' i) {x : FV} (hx : fs[h]? = some x) :
    (0 < x.1.pins → ∃ k, m = k + 1 ∧ ClockN k fs ((h + 1) % fs.length) fs' h' i) ∧
    (x.1.pins = 0 → x.1.touch = true → ∃ k, m = k + 1 ∧ ClockN k (fs.set h ({ x.1 with touch := false }, x.2)) ((h + 1) % fs.length) fs' h' i) ∧
    (x.1.pins = 0 → x.1.touch = false → fs' = fs ∧ h' = (h + 1) % fs.length ∧ i = h) := by
  cases hc with
  | stop hy hp ht =>
    rw [hx] at hy; injection hy with hy; subst hy
    exact ⟨fun h => by omega, fun _ h => (by rw [ht] at h; cases h), fun _ _ => ⟨rfl, rfl, rfl⟩⟩
  | pin hy hp hc =>
    rw [hx] at hy; injection hy with hy; subst hy
    exact ⟨fun _ => ⟨_, rfl, hc⟩, fun h => by omega, fun h => by omega⟩
  | tch hy hp ht hc =>
    rw [hx] at hy; injection hy with hy; subst hy
    exact ⟨fun h => by omega, fun _ _ => ⟨_, rfl, hc⟩, fun _ h => (by rw [ht] at h; cases h)⟩

/-- where the clock stands -/
def ClkR (w : World) (Pb D L : Nat) (F : Foot) (p : PM) (v : PLV) (fs' : List FV) (h' i' : Nat) (wr : World) (k : Nat) : Prop :=
  ∃ fsc hc, PRep wr Pb D L F { p with fr := fsc.map (·.1), hand := hc } { v with fs := fsc } ∧ SameFs v.fs fsc ∧ ClockN k fsc hc fs' h' i' ∧ Chg (pfoot Pb v) (pfoot Pb v) w wr

set_option maxHeartbeats 1000000 in
theorem p_found (w : World) (Pb D L : Nat) (F : Foot) (p : PM) (v : PLV) (h : PRep w Pb D L F p v) (hF : ∀ k, pfoot Pb v k → F k) : Calls Try.prog 19 #[.pointer (some ⟨Pb, 0, none⟩)] w (FoundOut w Pb D L F p v) := by
  obtain ⟨n, hn⟩ : ∃ n, v.fs.length = n := ⟨_, rfl⟩
  have c2 : w.cell? ⟨Pb, 2, none⟩ = some (.slice (some ⟨v.G, 0, none⟩) n n) := by rw [h.cell 2]; simp [pcells, hn]
  have hbig : n ≤ 1024 := by rw [← hn]; exact h.big
  have hn0 : (0 : Int) ≤ (n : Int) := by omega
  have HX := Lib.hid (And.intro h (And.intro hF hn))
  have HBIG := Lib.hid hbig
  have hcf := containsFree w v.G v.fs h.fbl h.big
  rw [hn] at hcf
  have HCF := Lib.hid hcf
  clear h hF hn hbig hcf
  go_enter Try.func19, Try.ntmps19
  go_wp2
  go_step3
  go_wp2
  go_loopw [3, 11] (fun a j wr => ∃ k : Nat, k ≤ n ∧ j = .int .i64 (k : Int) ∧ wr = w ∧ ∀ (i : Nat) (x : FV), v.fs[i]? = some x → i < k → 0 ≤ x.1.pg) (fun _ i _ => n - (intOf i).toNat)
  case atStart => exact ⟨0, by omega, rfl, rfl, fun i _ _ hi => absurd hi (by omega)⟩
  case round =>
    obtain ⟨k, hk, rfl, rfl, hno⟩ := hrel
    rcases Nat.lt_or_eq_of_le hk with hlt | rfl
    · obtain ⟨x, hx⟩ : ∃ x, v.fs[k]? = some x := ⟨_, List.getElem?_eq_getElem (by rw [HX.out.2.2]; exact hlt)⟩
      obtain ⟨k0, -⟩ := fc5 HX.out.1.fbl hx
      have hki : (k : Int) < (n : Int) := by omega
      have hk0 : (0 : Int) ≤ (k : Int) := by omega
      have HWJ : Hid (wrap64 ((k : Int) + 1) = (k : Int) + 1) := by show _ = _; have h9 := HBIG.out; unfold wrap64; omega
      obtain ⟨q, hq⟩ : ∃ q, x.1.pg = q := ⟨_, rfl⟩
      rw [hq] at k0
      have HR := Lib.hid (And.intro hlt (And.intro hno (And.intro hx hq)))
      clear hlt hno hx hq hk
      by_cases hneg : q < 0
      · go_wp2
        (try rw [Exit.noGoto_ret])
        go_ret
        obtain ⟨hlt, hno, hx, hq⟩ := HR.out
        exact ⟨k, p, v, .free hx (by rw [hq]; exact hneg) hno, rfl, HX.out.1, Chg.refl _ _⟩
      · have hnn : 0 ≤ q := by omega
        go_wp2
        go_roundw
        case rel => exact ⟨k + 1, by have := HR.out.1; omega, by rw [HWJ.out]; rfl, by trivial, fun i y hi hik => by
          obtain ⟨hlt, hno, hx, hq⟩ := HR.out
          rcases Nat.lt_or_eq_of_le (Nat.le_of_lt_succ hik) with h9 | h9
          · exact hno i y hi h9
          · subst h9
            rw [hx] at hi
            injection hi with hi
            subst hi
            omega⟩
        case measure => have := HR.out.1; rw [HWJ.out]; simp [intOf]; omega
    · have hall : ∀ x ∈ v.fs, 0 ≤ x.1.pg := fun x hx => by
        obtain ⟨i, hi, rfl⟩ := List.getElem_of_mem hx
        exact hno i _ (List.getElem?_eq_getElem hi) (by rw [← HX.out.2.2]; exact hi)
      have HALL := Lib.hid hall
      clear hall hno hk
      cases hany : anyFree v.fs with
      | false =>
        rw [hany] at HCF
        have hpin : ∀ x ∈ v.fs, 0 < x.1.pins := fun x hx => by
          rw [anyFree, List.any_eq_false] at hany
          have := hany x hx
          simp only [decide_eq_true_eq] at this
          omega
        have HP := Lib.hid hpin
        clear hany hpin
        go_wp2_with fail
        refine HCF.out.mono ?_
        rintro e w5 ⟨rfl, hb5⟩
        go_wp2
        (try rw [Exit.noGoto_ret])
        go_ret
        exact ⟨-1, p, v, .full HALL.out HP.out, rfl, HX.out.1.below hb5, Chg.of_below hb5 _⟩
      | true =>
        rw [hany] at HCF
        obtain ⟨x, hx, hx0⟩ := List.any_eq_true.1 hany
        obtain ⟨K, fs', h', i', hclk⟩ := clock_any v.fs p.hand HX.out.1.hand x hx (by simpa using hx0)
        have HCL := Lib.hid hclk
        clear hany hx hx0 hclk
        go_wp2_with fail
        refine HCF.out.mono ?_
        rintro e w5 ⟨rfl, hb5⟩
        have HB5 := Lib.hid hb5
        clear hb5
        go_wp2
        go_step3
        go_wp2
        have h0 : ClkR wr Pb D L F p v fs' h' i' w5 K := ⟨v.fs, p.hand, by
          have h9 := HX.out.1.below HB5.out
          have e9 : ({ p with fr := v.fs.map (·.1), hand := p.hand } : PM) = p := by rw [← HX.out.1.frs]
          rw [e9]
          exact h9, SameFs.refl _, HCL.out, Chg.of_below HB5.out _⟩
        have H0 := Lib.hid h0
        obtain ⟨wz, hwz⟩ : ∃ wz, wz = wr := ⟨_, rfl⟩
        subst hwz
        have HN := Lib.hid HX.out.2.2
        clear h0 HCF HB5 c2
        go_loopw [4, 5, 56, 62] (fun _ _ _ _ wq => ∃ k, ClkR wz Pb D L F p v fs' h' i' wq k) (fun _ _ _ _ wq => leastK (ClkR wz Pb D L F p v fs' h' i' wq))
        case atStart => exact ⟨K, H0.out⟩
        case round =>
          have hk := leastK_spec _ hrel
          obtain ⟨m, hm⟩ : ∃ m, leastK (ClkR wz Pb D L F p v fs' h' i' wr) = m := ⟨_, rfl⟩
          rw [hm] at hk
          obtain ⟨fsc, hc, hrep, hsame, hclk, hchg⟩ := hk
          obtain ⟨nn, hnn⟩ : ∃ nn, fsc.length = nn := ⟨_, rfl⟩
          have hhc : hc < nn := by rw [← hnn]; exact hrep.hand
          have hnb : nn ≤ 1024 := by rw [← hnn]; exact hrep.big
          obtain ⟨x, hx⟩ : ∃ x, fsc[hc]? = some x := ⟨_, List.getElem?_eq_getElem (by rw [hnn]; exact hhc)⟩
          obtain ⟨k0, k1, k2, k3, k4⟩ := fc5 hrep.fbl hx
          have c2 : wr.cell? ⟨Pb, 2, none⟩ = some (.slice (some ⟨v.G, 0, none⟩) nn nn) := by rw [hrep.cell 2]; simp [pcells, hnn]
          have c5 : wr.cell? ⟨Pb, 5, none⟩ = some (.int .i64 (hc : Int)) := by rw [hrep.cell 5]; simp [pcells]
          have z5 : wr.frozen? ⟨Pb, 5, none⟩ = false := hrep.free 5
          have hneG := hrep.neG
          have q0 : (0 : Int) ≤ (hc : Int) := by omega
          have q1 : (hc : Int) < (nn : Int) := by omega
          have q2 : (nn : Int) ≠ 0 := by omega
          have HW : Hid (wrap64 ((hc : Int) + 1) = (hc : Int) + 1) := by show _ = _; unfold wrap64; omega
          have hmod : ((hc : Int) + 1) % (nn : Int) = (((hc + 1) % nn : Nat) : Int) := by rw [Int.natCast_emod]; rfl
          have HY := Lib.hid (And.intro hrep (And.intro hsame (And.intro hclk (And.intro hchg (And.intro hnn (And.intro hx (And.intro hm hmod)))))))
          clear hrep hsame hclk hchg hnn hx hm hmod k0 k1 k2 k3 k4
          go_upto_region 11 with (fail)
          go_region
          obtain ⟨w6, hw6⟩ : ∃ w6, (wr.setCell ⟨Pb, 5, none⟩ (.int .i64 (((hc : Int) + 1) % (nn : Int)))).drew = w6 := ⟨_, rfl⟩
          rw [hw6]
          have ho6 : ∀ k, k ≠ Pb → w6.heap[k]? = wr.heap[k]? := fun k hk => by rw [← hw6]; exact setCell_heap wr ⟨Pb, 5, none⟩ _ k hk
          have hs6 : w6.heap.size = wr.heap.size := by rw [← hw6]; exact setCell_size wr _ _
          have hg6 : Chg (pfoot Pb v) (pfoot Pb v) wr w6 := by
            rw [← hw6]
            exact (chg_setCell wr ⟨Pb, 5, none⟩ _ (.inl rfl)).trans (chg_drew _)
          obtain ⟨hrep, hsame, hclk, hchg, hnn, hx, hm, hmod⟩ := HY.out
          have hb6 : w6.heap[Pb]? = some (.cells (pcells D L { v with fs := fsc } ((hc + 1) % nn)) 53 (0, 0)) := by
            rw [← hw6]
            refine (setCell_blk hrep.blk _).trans ?_
            rw [hmod]
            rfl
          have hrep6 : PRep w6 Pb D L F { p with fr := fsc.map (·.1), hand := (hc + 1) % nn } { v with fs := fsc } :=
            hrep.touch (fun k hk => HX.out.2.1 k hk) (fun k _ hk => ho6 k (fun e => hk (HX.out.2.1 k (.inl e)))) hb6 ((ho6 _ (Ne.symm hneG)).trans hrep.fbl) (SameFs.refl _) (ho6 _ (Ne.symm hrep.neMw)) (ho6 _ (Ne.symm hrep.neMd)) (by show _ < fsc.length; rw [hnn]; exact Nat.mod_lt _ (by omega))
          have hg6' := hchg.trans hg6
          obtain ⟨v1, v2, v3⟩ := hclk.inv hx
          rw [hnn] at v1 v2 v3
          have kk : ∀ j, j < 5 → w6.cell? ⟨v.G, hc * 5 + j, none⟩ = (f5 x)[j]? := fun j hj => by
            have h9 := hrep6.fcell hc j x hx hj
            rw [Nat.mul_comm] at h9
            exact h9
          have k2 : w6.cell? ⟨v.G, hc * 5 + 2, none⟩ = some (.int .i64 (x.1.pins : Int)) := kk 2 (by omega)
          have k3 : w6.cell? ⟨v.G, hc * 5 + 3, none⟩ = some (.bool x.1.touch) := kk 3 (by omega)
          have fr3 : w6.frozen? ⟨v.G, hc * 5 + 3, none⟩ = false := hrep6.ffree _
          obtain ⟨pn, hpn⟩ : ∃ pn, x.1.pins = pn := ⟨_, rfl⟩
          obtain ⟨tc, htc⟩ : ∃ tc, x.1.touch = tc := ⟨_, rfl⟩
          rw [hpn] at k2 v1 v2 v3
          rw [htc] at k3 v2 v3
          have HZ := Lib.hid (And.intro hrep6 (And.intro hsame (And.intro hg6' (And.intro hnn (And.intro hx (And.intro hm (And.intro v1 (And.intro v2 v3))))))))
          clear hrep hsame hclk hchg hnn hx hm hmod HY kk v1 v2 v3 hrep6 hg6' ho6 hs6 hg6 hb6 c2 c5 z5 hw6 hneG
          by_cases hp : 0 < pn
          · have hp' : (0 : Int) < (pn : Int) := by omega
            go_wp2
            go_roundw
            case rel =>
              obtain ⟨hrep6, hsame, hg6, hnn, hx, hm, v1, v2, v3⟩ := HZ.out
              obtain ⟨k, rfl, hk⟩ := v1 hp
              exact ⟨k, fsc, _, hrep6, hsame, hk, hg6⟩
            case measure =>
              obtain ⟨hrep6, hsame, hg6, hnn, hx, hm, v1, v2, v3⟩ := HZ.out
              obtain ⟨k, rfl, hk⟩ := v1 hp
              rw [hm]
              exact Nat.lt_succ_of_le (leastK_le _ k ⟨fsc, _, hrep6, hsame, hk, hg6⟩)
          · have hp0 : pn = 0 := by omega
            subst hp0
            cases tc with
            | true =>
              obtain ⟨w7, hw7⟩ : ∃ w7, w6.setCell ⟨v.G, hc * 5 + 3, none⟩ (.bool false) = w7 := ⟨_, rfl⟩
              clear hp
              go_wp2
              have hZ : ∃ k, m = k + 1 ∧ ClkR wz Pb D L F p v fs' h' i' w7 k := by
                obtain ⟨hrep6, hsame, hg6, hnn, hx, hm, v1, v2, v3⟩ := HZ.out
                obtain ⟨k, rfl, hk⟩ := v2 rfl rfl
                have ho7 : ∀ k, k ≠ v.G → w7.heap[k]? = w6.heap[k]? := fun k hk => by rw [← hw7]; exact setCell_heap w6 ⟨v.G, hc * 5 + 3, none⟩ _ k hk
                have hb7 : w7.heap[v.G]? = some (.cells (fcells (fsc.set hc ({ x.1 with touch := false }, x.2))).toArray 58 (0, 0)) := by
                  rw [← hw7]
                  refine (setCell_blk hrep6.fbl _).trans ?_
                  rw [Nat.mul_comm, fcells_set1 fsc hc 3 x ({ x.1 with touch := false }, x.2) (.bool false) hx (by omega) rfl]
                have hrep7 : PRep w7 Pb D L F { p with fr := (fsc.set hc ({ x.1 with touch := false }, x.2)).map (·.1), hand := (hc + 1) % nn } { v with fs := fsc.set hc ({ x.1 with touch := false }, x.2) } :=
                  hrep6.touch (fun k hk => HX.out.2.1 k hk) (fun k _ hk => ho7 k (fun e => hk (HX.out.2.1 k (.inr (.inl e))))) (by
                    rw [ho7 _ hrep6.neG]
                    refine hrep6.blk.trans ?_
                    simp [pcells]) hb7 (sameFs_touch hx false) (ho7 _ (Ne.symm hrep6.neGMw)) (ho7 _ (Ne.symm hrep6.neGMd)) (by show _ < fsc.length; rw [hnn]; exact Nat.mod_lt _ (by omega))
                exact ⟨k, rfl, _, _, hrep7, hsame.trans (sameFs_touch hx false), by
                  exact hk, hg6.trans (by rw [← hw7]; exact chg_setCell w6 ⟨v.G, hc * 5 + 3, none⟩ _ (.inr (.inl rfl)))⟩
              go_roundw
              case rel =>
                obtain ⟨k, rfl, hk⟩ := hZ
                exact ⟨k, hk⟩
              case measure =>
                have hm := HZ.out.2.2.2.2.2.1
                obtain ⟨k, rfl, hk⟩ := hZ
                rw [hm]
                exact Nat.lt_succ_of_le (leastK_le _ k hk)
            | false =>
              clear hp
              go_wp2
              (try rw [Exit.noGoto_ret])
              go_ret
              obtain ⟨hrep6, hsame, hg6, hnn, hx, hm, v1, v2, v3⟩ := HZ.out
              obtain ⟨rfl, rfl, rfl⟩ := v3 (by trivial) (by trivial)
              exact ⟨_, _, _, .clock HALL.out HCL.out, rfl, hrep6, hg6⟩
end Mun
