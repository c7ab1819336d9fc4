/- Texts of mine, one behind the other: TeL, TeT, TeU. -/
import Derived.Test.YtjfepmohoijalaaGreatMgY
import Derived.Test.YtjfepmohoijalaaGreatMgW
section
/- The LSN of a page's bytes, as the law reads it. -/
set_option maxRecDepth 100000
set_option linter.unusedVariables false
set_option linter.unusedSimpArgs false
namespace Mun
open Go Go.RowKit
open Go.Proofs

theorem lsn8_any {F : Foot} (w : World) (v : Value) (l : List UInt8) (hv : RdB F w v l) (hl : l.length = 512) : Calls Tryz.prog 28 #[v] w fun e w' => e = .returned (.int .u64 (gt l 4 8)) ∧ w = w' := by
  show Calls Tryz.prog _ _ _ fun e w' => e = .returned (.int .u64 ((leNat ((l.drop 4).take 8) : Nat) : Int)) ∧ w = w'
  obtain ⟨a, c, rfl, hlc, hcm⟩ := hv.form
  rw [hl] at hv hlc ⊢
  have hlen : ((l.drop 4).take 8).length = 8 := by rw [List.length_take, List.length_drop]; omega
  have HL := Lib.hid (And.intro hlen hl)
  clear hlen
  go_enter Tryz.func28, Tryz.ntmps28
  go_wp2
  go_loop [3, 4] (fun n i => ∃ j : Nat, j ≤ 8 ∧ i = .int .i64 ((j : Int) + 3) ∧ n = .int .u64 (leNat (((l.drop 4).take 8).drop j))) (fun _ i => (RowKit.intOf i).toNat)
  case atStart => exact ⟨8, Nat.le_refl _, rfl, by rw [List.drop_of_length_le (by rw [HL.out.1]; exact Nat.le_refl _)]; rfl⟩
  case round =>
    obtain ⟨j, hj, rfl, rfl⟩ := hrel
    by_cases h0 : j = 0
    · subst h0
      go_wp2
      go_ret
      exact ⟨rfl, rfl⟩
    · obtain ⟨i, rfl⟩ : ∃ i, j = i + 1 := ⟨j - 1, by omega⟩
      obtain ⟨g, off, c', hv', h1, h2, h3, h4, h5⟩ := hv.at_ (by have := HL.out.2; omega)
      rw [HL.out.2] at hv'
      injection hv' with e1 e2 e3
      subst e1 e3
      have hck := h5 (4 + i) (by have := HL.out.2; omega)
      have hb : (l[4 + i]'(by have := HL.out.2; omega)).toNat < 256 := (l[4 + i]'(by have := HL.out.2; omega)).toNat_lt
      have hs : Hid (leNat (((l.drop 4).take 8).drop i) = (l[4 + i]'(by have := HL.out.2; omega)).toNat + 256 * leNat (((l.drop 4).take 8).drop (i + 1))) := by
        have := leNat_drop ((l.drop 4).take 8) i (by rw [HL.out.1]; omega)
        rw [List.getElem_take, List.getElem_drop] at this
        exact this
      have hlt := leNat_lt (((l.drop 4).take 8).drop (i + 1))
      rw [List.length_drop, HL.out.1] at hlt
      have Hw := Lib.hid (refget_step _ (l[4 + i]'(by have := HL.out.2; omega)) _ (by omega) hlt)
      clear h5 h1 h2 h4 hlt
      generalize leNat (((l.drop 4).take 8).drop (i + 1)) = q at hs Hw
      obtain ⟨bt, hbt⟩ : ∃ bt, (l[4 + i]'(by have := HL.out.2; omega)).toNat = bt := ⟨_, rfl⟩
      rw [hbt] at hck hb hs Hw
      obtain ⟨m, hm⟩ : ∃ m, 4 + i = m := ⟨_, rfl⟩
      have e0 : ((i + 1 : Nat) : Int) + 3 = (m : Int) := by omega
      have e1 : off + (4 + i) = off + m := by rw [hm]
      rw [e1] at hck
      rw [e0]
      have hm4 : (4 : Int) ≤ (m : Int) := by omega
      have hm5 : (m : Int) ≤ 11 := by omega
      have hm6 : (m : Int) < 512 := by omega
      have hm7 : (0 : Int) ≤ (m : Int) := by omega
      have HM := Lib.hid (And.intro hm hj)
      have hb0 : (bt : Int) < 256 := by omega
      clear e0 e1 hm hj h0 hbt hb
      go_wp2
      go_round
      case rel =>
        refine ⟨i, by have := HM.out; omega, ?_, ?_⟩
        · show Value.int .i64 _ = .int .i64 _
          have := HM.out.1
          congr 1
          omega
        · rw [hs.out, Hw.out]
      case measure => have := HM.out.1; simp [RowKit.intOf]; omega
end Mun
end

section
/- The state of PoolTells' walk, and what each deed makes of it. -/
set_option maxRecDepth 100000
set_option linter.unusedVariables false
set_option linter.unusedSimpArgs false
namespace Mun
open Go Go.RowKit
open Go.Proofs

/-- the law's own blocks -/
abbrev OF (Bx Lr : Nat) : Foot := fun k => k = Bx ∨ k = Lr

structure TS (w0 w : World) (D L Pb Bx Lr n i : Nat) (s : PX) (x : PZ) (last : List Bytes) (vals : List Value) : Prop where
  pl : PL w D L Pb s x
  ti : TI n s last
  box : w.heap[Bx]? = some (.cells (bcells D L Pb) 28 (0, 0))
  row : w.heap[Lr]? = some (.cells vals.toArray 41 (0, 0))
  rd : ∀ (j : Nat) (b : Bytes), last[j]? = some b → ∃ u, vals[j]? = some u ∧ RdB (x.af Pb L) w u b
  vlen : vals.length = n
  below : Below w0.heap.size w0 w
  af0 : ∀ k, x.tf Pb L k → w0.heap.size ≤ k
  hz : x.Z = OF Bx Lr
  bx0 : w0.heap.size ≤ Bx
  lr0 : w0.heap.size ≤ Lr
  nB : ¬ x.tf Pb L Bx
  nL : ¬ x.tf Pb L Lr
  ops : s.cost ≤ i + 3 * s.nrec
  frl : 1 ≤ s.pm.fr.length ∧ s.pm.fr.length ≤ 4
  n8 : 1 ≤ n ∧ n ≤ 8

/-- no frame is pinned -/
def Pin0 (s : PX) : Prop := ∀ f ∈ s.pm.fr, f.pins = 0
/-- the page k alone is pinned, once -/
def Pin1 (s : PX) (k : Nat) : Prop := ∃ (i : Nat) (f : FM), s.pm.fr[i]? = some f ∧ f.pg = (k : Int) ∧ f.pins = 1 ∧ ∀ (j : Nat) (g : FM), s.pm.fr[j]? = some g → j ≠ i → g.pins = 0

section
variable {w0 w w' : World} {D L Pb Bx Lr n i : Nat} {s s' : PX} {x x' : PZ} {last : List Bytes} {vals : List Value} {v' : PLV}

theorem TS.more (h : TS w0 w D L Pb Bx Lr n i s x last vals) (hb : Below w.heap.size w w') : TS w0 w' D L Pb Bx Lr n i s x last vals :=
  ⟨h.pl.below hb, h.ti, (hb.block _ (Array.getElem?_eq_some_iff.1 h.box).1).trans h.box, (hb.block _ (Array.getElem?_eq_some_iff.1 h.row).1).trans h.row,
    fun j b hj => by obtain ⟨u, h1, h2⟩ := h.rd j b hj; exact ⟨u, h1, h2.below hb⟩, h.vlen, h.below.trans (hb.mono h.below.size), h.af0, h.hz, h.bx0, h.lr0, h.nB, h.nL, h.ops, h.frl, h.n8⟩
theorem TS.drewN (h : TS w0 w D L Pb Bx Lr n i s x last vals) (k : Nat) : TS w0 (w.drewN k) D L Pb Bx Lr n i s x last vals := h.more (below_drewN (Below.refl _ _) k)

/-- the pool, the log or the device has turned -/
theorem TS.to (h : TS w0 w D L Pb Bx Lr n i s x last vals) (hp : PTo w D L Pb x s' v' w') (hs : TI n s' last) {i' : Nat} (ho : s'.cost ≤ i' + 3 * s'.nrec) (hf : s'.pm.fr.length = s.pm.fr.length) :
    ∃ x', x'.v = v' ∧ TS w0 w' D L Pb Bx Lr n i' s' x' last vals ∧ Chg (x.tf Pb L) (x'.tf Pb L) w w' := by
  obtain ⟨x', hv, hzz, hpl, hc⟩ := hp
  have lB := (Array.getElem?_eq_some_iff.1 h.box).1
  have lL := (Array.getElem?_eq_some_iff.1 h.row).1
  refine ⟨x', hv, ⟨hpl, hs, (hc.block _ lB h.nB).trans h.box, (hc.block _ lL h.nL).trans h.row, fun j b hj => ?_, h.vlen, h.below.trans (hc.below h.below.size (fun k hk hf => by have := h.af0 k hf; omega)), fun k hk => ?_, hzz.trans h.hz, h.bx0, h.lr0, fun hk => ?_, fun hk => ?_, ho, by rw [hf]; exact h.frl, h.n8⟩, hc⟩
  · obtain ⟨u, h1, h2⟩ := h.rd j b hj
    exact ⟨u, h1, RdV.keep h2 (fun k hk hn => hc.block k hk (fun e => hn (x.tf_af Pb L k e))) (fun k hk e => af_back hzz hc k hk e)⟩
  · rcases hc.foot k hk with h1 | h1
    · exact h.af0 k h1
    · have := h.below.size; omega
  · rcases hc.foot _ hk with h1 | h1
    · exact h.nB h1
    · omega
  · rcases hc.foot _ hk with h1 | h1
    · exact h.nL h1
    · omega
theorem TS.cells (h : TS w0 w D L Pb Bx Lr n i s x last vals) : w.cell? ⟨Bx, 0, none⟩ = some (.pointer (some ⟨D, 0, none⟩)) ∧ w.cell? ⟨Bx, 1, none⟩ = some (.pointer (some ⟨L, 0, none⟩)) ∧ w.cell? ⟨Bx, 2, none⟩ = some (.pointer (some ⟨Pb, 0, none⟩)) :=
  ⟨cell_of_row _ _ 0 _ _ _ h.box, cell_of_row _ _ 1 _ _ _ h.box, cell_of_row _ _ 2 _ _ _ h.box⟩
theorem TS.cellL (h : TS w0 w D L Pb Bx Lr n i s x last vals) {k : Nat} {u : Value} (hu : vals[k]? = some u) : w.cell? ⟨Lr, k, none⟩ = some u := by
  rw [cell_of_row w Lr k _ _ _ h.row]
  simpa using hu
/-- a block beside all that is turned -/
theorem keepD {x x' : PZ} {Dx : Nat} (hl : Dx < w.heap.size) (hn : ¬ x.tf Pb L Dx) (hc : Chg (x.tf Pb L) (x'.tf Pb L) w w') : w'.heap[Dx]? = w.heap[Dx]? ∧ ¬ x'.tf Pb L Dx :=
  ⟨hc.block _ hl hn, fun hk => by
    rcases hc.foot _ hk with h1 | h1
    · exact hn h1
    · omega⟩
theorem TS.later (h : TS w0 w D L Pb Bx Lr n i s x last vals) {i' : Nat} (hi : i ≤ i') : TS w0 w D L Pb Bx Lr n i' s x last vals := { h with ops := by have := h.ops; omega }

theorem TS.opsb (h : TS w0 w D L Pb Bx Lr n i s x last vals) (hi : i ≤ 3518437208882) : s.dm.ops < 4398045000000 := by
  have h1 := h.ops
  have h2 := h.pl.mem.wf.len
  have h3 := lenL_len s.lm.recs
  unfold PX.cost PX.nrec at h1
  omega

theorem FoundIs.pm {p p1 : PM} {v v1 : PLV} {r : Int} (h : FoundIs p v r p1 v1) (hfr : p.fr = v.fs.map (·.1)) :
    p1.dt = p.dt ∧ p1.fr.map (fun f => (f.pg, f.b, f.chg)) = p.fr.map (fun f => (f.pg, f.b, f.chg)) ∧ p1.fr.map (·.pins) = p.fr.map (·.pins) ∧ p1.fr = v1.fs.map (·.1) := by
  cases h with
  | free _ _ _ => exact ⟨rfl, rfl, rfl, hfr⟩
  | full _ _ => exact ⟨rfl, rfl, rfl, hfr⟩
  | @clock kk fs hh ii ha hc =>
    obtain ⟨h1, -, -⟩ := hc.facts
    have hpt : ∀ {β : Type} (q : FM → β), (∀ f g : FM, g.pg = f.pg → g.b = f.b → g.pins = f.pins → g.chg = f.chg → q g = q f) → (fs.map (·.1)).map q = p.fr.map q := fun q hq => by
      rw [hfr]
      apply List.ext_getElem?
      intro j
      rw [List.getElem?_map, List.getElem?_map, List.getElem?_map, List.getElem?_map]
      cases hj : v.fs[j]? with
      | none =>
        rw [List.getElem?_eq_none_iff] at hj
        rw [List.getElem?_eq_none (by rw [h1.1]; exact hj)]
      | some z =>
        obtain ⟨y, hy, e1, e2, e3, e4, e5⟩ := h1.2 j z hj
        rw [hy]
        simp only [Option.map_some]
        rw [hq z.1 y.1 e1 e2 e3 e4]
    exact ⟨rfl, hpt _ (fun f g a b c d => by rw [a, b, d]), hpt _ (fun f g a b c d => c), rfl⟩

theorem Pin0.out (h : Pin0 s) (j : Nat) : Pin0 (s.out j).1 := by
  rcases out_fr s j with e | ⟨f, hf, e⟩
  · unfold Pin0; rw [e]; exact h
  · unfold Pin0
    rw [e]
    intro g hg
    rcases List.mem_or_eq_of_mem_set hg with h1 | h1
    · exact h g h1
    · rw [h1]; exact h f (List.mem_of_getElem? hf)
theorem TI.len (h : TI n s last) {k : Nat} {b : Bytes} (hb : last[k]? = some b) : b.length = 512 := (h.chk b (List.mem_of_getElem? hb)).2
theorem TI.goodF (h : TI n s last) : s.GoodF := fun f hf hc => (h.chg f hf hc).2.1
theorem set_trip {fr : List FM} {j : Nat} {f g : FM} (hf : fr[j]? = some f) (h1 : g.pg = f.pg) (h2 : g.b = f.b) (h3 : g.chg = f.chg) : (fr.set j g).map (fun f => (f.pg, f.b, f.chg)) = fr.map (fun f => (f.pg, f.b, f.chg)) := by
  rw [List.map_set]
  apply List.ext_getElem?
  intro a
  rw [List.getElem?_set]
  by_cases hja : j = a
  · subst hja
    have hl := (List.getElem?_eq_some_iff.1 hf).1
    simp [hl, hf, h1, h2, h3]
    rw [List.getElem?_eq_getElem hl] at hf
    injection hf with hf
    rw [hf]
    exact ⟨rfl, rfl, rfl⟩
  · simp [hja]

/-- Pin of a page: its bytes are what was put last -/
def PinT (w0 w : World) (D L Pb Bx Lr n i k : Nat) (x : PZ) (last : List Bytes) (vals : List Value) (e : Ending) (w' : World) : Prop :=
  ∃ (g : Nat) (s' : PX) (x' : PZ) (b : Bytes), e = .returned (.tuple #[.slice (some ⟨g, 0, none⟩) 512 512, .int .i64 0]) ∧ last[k]? = some b ∧ OwnB w' w.heap.size 5 (.slice (some ⟨g, 0, none⟩) 512 512) b ∧
    TS w0 w' D L Pb Bx Lr n i s' x' last vals ∧ Pin1 s' k ∧ Chg (x.tf Pb L) (x'.tf Pb L) w w'

theorem pin_T (h : TS w0 w D L Pb Bx Lr n i s x last vals) (hp0 : Pin0 s) (hi : i ≤ 3518437208882) (k : Nat) (hk : k < n) : Calls Tryz.prog 15 #[.pointer (some ⟨Pb, 0, none⟩), .int .i64 k] w (PinT w0 w D L Pb Bx Lr n i k x last vals) := by
  have hkb : k < s.dm.base.length := by rw [h.ti.base]; exact hk
  cases hl : alook x.v.es (k : Int) with
  | some u =>
    obtain ⟨-, fi, z, rfl, hz, hp⟩ := h.pl.rep.mok.there _ _ hl
    have hfz : s.pm.fr[fi]? = some z.1 := by rw [h.pl.frs, hz]; rfl
    have hm := List.mem_of_getElem? hfz
    have hpz := hp0 z.1 hm
    have hb : last[k]? = some z.1.b := by
      have h1 := h.ti.fb z.1 hm (by omega)
      rw [hp, Int.toNat_natCast] at h1
      exact h1
    have hlen := h.ti.len hb
    refine (pin_held_pl h.pl k hkb fi z hz hp (by omega) (by omega)).mono ?_
    rintro e w' ⟨g, rfl, hown, hto⟩
    rw [hlen] at hown ⊢
    obtain ⟨x', -, hts, hcg⟩ := h.to (i' := i) hto (h.ti.frames (fr := s.pm.fr.set fi z.1.pin) (hand := s.pm.hand) (set_trip hfz rfl rfl rfl)) (by
      have h9 := h.ops
      show s.dm.ops + 2 * (s.pm.fr.set fi z.1.pin).countP (·.chg) ≤ _
      rw [nchg_map (set_trip (g := z.1.pin) hfz rfl rfl rfl)]
      exact h9) (by show (s.pm.fr.set fi z.1.pin).length = _; rw [List.length_set])
    refine ⟨g, _, x', z.1.b, rfl, hb, hown, hts, ⟨fi, z.1.pin, List.getElem?_set_self (List.getElem?_eq_some_iff.1 hfz).1, hp, by show z.1.pins + 1 = 1; omega, fun j f hj hne => ?_⟩, hcg⟩
    have hj : (s.pm.fr.set fi z.1.pin)[j]? = some f := hj
    rw [List.getElem?_set_ne (Ne.symm hne)] at hj
    exact hp0 f (List.mem_of_getElem? hj)
  | none =>
    refine (pin_pl h.pl (by have := h.opsb hi; omega) k hkb hl (h.pl.goodV h.ti.goodF)).mono ?_
    rintro e w' ⟨r, p1, v1, hfd, hr⟩
    obtain ⟨hdt, htr, hpn, hfr1⟩ := hfd.pm h.pl.rep.frs
    rcases hr with ⟨rfl, -, -⟩ | ⟨fi, rfl, v', hto, hres⟩
    · exfalso
      rcases hfd.split with ⟨-, -, -, -, hall⟩ | ⟨j, z, hj, -⟩
      · have hlen := h.frl.1
        have hfl : s.pm.fr.length = x.v.fs.length := by rw [h.pl.rep.frs, List.length_map]
        have h1 := hall _ (List.getElem_mem (l := x.v.fs) (n := 0) (by omega))
        have h2 := hp0 (x.v.fs[0]'(by omega)).1 (by rw [h.pl.rep.frs]; exact List.mem_map_of_mem (List.getElem_mem _))
        omega
      · omega
    · obtain ⟨s1, hs1⟩ : ∃ s1 : PX, ({ s with pm := p1 } : PX) = s1 := ⟨_, rfl⟩
      have hp1 : p1 = { s.pm with fr := p1.fr, hand := p1.hand } := by cases p1; simp only at hdt; rw [hdt]
      have hti : TI n s1 last := by rw [← hs1, hp1]; exact h.ti.frames htr
      have hlen1 : s1.pm.fr.length = s.pm.fr.length := by
        have := congrArg List.length htr
        rw [← hs1]
        simpa using this
      have hfi : fi < s1.pm.fr.length := by
        rcases hfd.split with ⟨e, -⟩ | ⟨j, z, e, hz, -, -, -⟩
        · omega
        · have hj : fi = j := by omega
          subst hj
          rw [← hs1]
          show fi < p1.fr.length
          rw [hfr1, List.length_map]
          exact (List.getElem?_eq_some_iff.1 hz).1
      have hpin1 : Pin0 s1 := fun f hf => by
        have h1 : f.pins ∈ p1.fr.map (·.pins) := List.mem_map_of_mem (by rw [← hs1] at hf; exact hf)
        rw [hpn] at h1
        obtain ⟨f', hf', e'⟩ := List.mem_map.1 h1
        rw [← e']; exact hp0 f' hf'
      have hno : ∀ g ∈ s1.pm.fr, g.pg ≠ (k : Int) := fun g hg e => by
        have h1 : (g.pg, g.b, g.chg) ∈ p1.fr.map (fun f => (f.pg, f.b, f.chg)) := List.mem_map.2 ⟨g, by rw [← hs1] at hg; exact hg, rfl⟩
        rw [htr] at h1
        obtain ⟨f', hf', e'⟩ := List.mem_map.1 h1
        injection e' with e' _
        rw [h.pl.rep.frs] at hf'
        obtain ⟨z, hz, rfl⟩ := List.mem_map.1 hf'
        obtain ⟨a, ha, rfl⟩ := List.getElem_of_mem hz
        have h2 := h.pl.rep.mok.here a _ (List.getElem?_eq_getElem ha) (by omega)
        rw [e', e, hl] at h2
        cases h2
      rw [hs1] at hto hres
      obtain ⟨k0, hI, hb, hfr⟩ := hti.pin1 hfi hk hno
      have hop : (s1.pin1 k fi).1.cost ≤ i + 3 * (s1.pin1 k fi).1.nrec := by
        obtain ⟨c1, c2⟩ := hti.pin1C hfi hk hno
        have h3 : s1.cost = s.cost := by
          rw [← hs1]
          show s.dm.ops + 2 * p1.fr.countP (·.chg) = s.dm.ops + 2 * s.pm.fr.countP (·.chg)
          rw [nchg_map htr]
        have h4 := h.ops
        have h5 : s1.nrec = s.nrec := by rw [← hs1]; rfl
        omega
      rcases hres with ⟨h9, -⟩ | ⟨-, g, rfl, hown⟩
      · exact absurd k0 h9
      · obtain ⟨x', -, hts, hcg⟩ := h.to (i' := i) hto hI hop (by rw [hfr, List.length_set, out_len]; exact hlen1)
        refine ⟨g, _, x', _, rfl, hb, hown, hts, ⟨fi, _, by rw [hfr]; exact List.getElem?_set_self (by rw [out_len]; exact hfi), rfl, rfl, fun j f hj hne => ?_⟩, hcg⟩
        rw [hfr, List.getElem?_set_ne (Ne.symm hne)] at hj
        exact hpin1.out fi f (List.mem_of_getElem? hj)

theorem unpin_T (h : TS w0 w D L Pb Bx Lr n i s x last vals) (k : Nat) (hp1 : Pin1 s k) : Calls Tryz.prog 23 #[.pointer (some ⟨Pb, 0, none⟩), .int .i64 k] w fun e w' =>
    e = .returned (.int .i64 0) ∧ ∃ s' x', TS w0 w' D L Pb Bx Lr n i s' x' last vals ∧ Pin0 s' := by
  obtain ⟨fi, f, hf, hp, hpin, hoth⟩ := hp1
  have hzf := h.pl.frs fi
  rw [hf] at hzf
  obtain ⟨z, hz, rfl⟩ := Option.map_eq_some_iff.1 hzf.symm
  refine (unpin_pl h.pl k fi z hz hp (by omega) (by omega) (by omega)).mono ?_
  rintro e w' ⟨rfl, hto⟩
  obtain ⟨x', -, hts, -⟩ := h.to (i' := i) hto (h.ti.frames (fr := s.pm.fr.set fi z.1.unpin) (hand := s.pm.hand) (set_trip hf rfl rfl rfl)) (by
    have h9 := h.ops
    show s.dm.ops + 2 * (s.pm.fr.set fi z.1.unpin).countP (·.chg) ≤ _
    rw [nchg_map (set_trip (g := z.1.unpin) hf rfl rfl rfl)]
    exact h9) (by show (s.pm.fr.set fi z.1.unpin).length = _; rw [List.length_set])
  refine ⟨rfl, _, x', hts, fun g hg => ?_⟩
  obtain ⟨j, hj, rfl⟩ := List.getElem_of_mem (show g ∈ s.pm.fr.set fi z.1.unpin from hg)
  rw [List.length_set] at hj
  by_cases hij : fi = j
  · subst hij
    rw [List.getElem_set_self]
    show z.1.pins - 1 = 0
    omega
  · rw [List.getElem_set_ne hij]
    exact hoth j _ (List.getElem?_eq_getElem hj) (Ne.symm hij)

theorem app_T (h : TS w0 w D L Pb Bx Lr n i s x last vals) (hi : i ≤ 3518437208882) (k : Nat) (hp1 : Pin1 s k) :
    Calls Tryz.prog 19 #[.pointer (some ⟨L, 0, none⟩), .agg #[.int .i64 1, .int .u64 0, .int .u64 0, .int .u64 0, .slice none 0 0, .slice none 0 0]] w fun e w' =>
      ∃ (l : Nat) (kk : Int) (s' : PX) (x' : PZ), e = .returned (.tuple #[.int .u64 (l : Int), .int .i64 kk]) ∧ TS w0 w' D L Pb Bx Lr n i s' x' last vals ∧ Pin1 s' k ∧ (kk = 0 → l < s'.lm.fin ∧ s'.cost + 2 ≤ i + 3 * s'.nrec) ∧ l < 18446744073709551616 ∧ Chg (x.tf Pb L) (x'.tf Pb L) w w' := by
  refine (app_pl h.pl (by have := h.opsb hi; omega) (fun _ => h.ti.log)).mono ?_
  rintro e w' ⟨rfl, hto⟩
  obtain ⟨hI, hk, hfin, hpm⟩ := h.ti.app
  obtain ⟨c1, c2, c3, c4⟩ := h.ti.appC
  have h9 := h.ops
  obtain ⟨x', -, hts, hcg⟩ := h.to (i' := i) hto hI (by
    by_cases hk0 : s.app.2 = 0
    · have := c3 hk0; omega
    · have := c4 hk0; omega) (by rw [hpm])
  have hf64 : s.lm.fin < 18446744073709551616 := by
    have h1 := h.pl.mem.wf.base
    have h2 := h.pl.mem.wf.len
    show s.lm.base + lenL s.lm.recs < _
    omega
  refine ⟨_, _, _, x', rfl, hts, by unfold Pin1; rw [hpm]; exact hp1, fun e => ?_, ?_, hcg⟩
  · refine ⟨by rw [if_pos e, hfin e]; omega, ?_⟩
    have := c3 e
    omega
  · split
    · exact hf64
    · omega
end
end Mun
end

section
/- More deeds of PoolTells: Put and what was put last; Write, WriteAll, Sync. -/
set_option maxRecDepth 100000
set_option linter.unusedVariables false
set_option linter.unusedSimpArgs false
namespace Mun
open Go Go.RowKit
open Go.Proofs

/-- the memory alone -/
structure TM (w0 w : World) (D L Pb Bx Lr n : Nat) (s : PX) (x : PZ) (last : List Bytes) (vals : List Value) : Prop where
  pl : PL w D L Pb s x
  box : w.heap[Bx]? = some (.cells (bcells D L Pb) 28 (0, 0))
  row : w.heap[Lr]? = some (.cells vals.toArray 41 (0, 0))
  rd : ∀ (j : Nat) (b : Bytes), last[j]? = some b → ∃ u, vals[j]? = some u ∧ RdB (x.af Pb L) w u b
  vlen : vals.length = n
  below : Below w0.heap.size w0 w
  af0 : ∀ k, x.tf Pb L k → w0.heap.size ≤ k
  hz : x.Z = OF Bx Lr
  bx0 : w0.heap.size ≤ Bx
  lr0 : w0.heap.size ≤ Lr
  nB : ¬ x.tf Pb L Bx
  nL : ¬ x.tf Pb L Lr

section
variable {w0 w w' : World} {D L Pb Bx Lr n i : Nat} {s s' : PX} {x x' : PZ} {last : List Bytes} {vals : List Value} {v' : PLV}

theorem TS.tm (h : TS w0 w D L Pb Bx Lr n i s x last vals) : TM w0 w D L Pb Bx Lr n s x last vals := ⟨h.pl, h.box, h.row, h.rd, h.vlen, h.below, h.af0, h.hz, h.bx0, h.lr0, h.nB, h.nL⟩
theorem TM.ts (h : TM w0 w D L Pb Bx Lr n s x last vals) (ht : TI n s last) (ho : s.cost ≤ i + 3 * s.nrec) (hf : 1 ≤ s.pm.fr.length ∧ s.pm.fr.length ≤ 4) (h8 : 1 ≤ n ∧ n ≤ 8) : TS w0 w D L Pb Bx Lr n i s x last vals := ⟨h.pl, ht, h.box, h.row, h.rd, h.vlen, h.below, h.af0, h.hz, h.bx0, h.lr0, h.nB, h.nL, ho, hf, h8⟩
theorem TM.more (h : TM w0 w D L Pb Bx Lr n s x last vals) (hb : Below w.heap.size w w') : TM w0 w' D L Pb Bx Lr n s x last vals :=
  ⟨h.pl.below hb, (hb.block _ (Array.getElem?_eq_some_iff.1 h.box).1).trans h.box, (hb.block _ (Array.getElem?_eq_some_iff.1 h.row).1).trans h.row,
    fun j b hj => by obtain ⟨u, h1, h2⟩ := h.rd j b hj; exact ⟨u, h1, h2.below hb⟩, h.vlen, h.below.trans (hb.mono h.below.size), h.af0, h.hz, h.bx0, h.lr0, h.nB, h.nL⟩
theorem TM.to (h : TM w0 w D L Pb Bx Lr n s x last vals) (hp : PTo w D L Pb x s' v' w') : ∃ x', x'.v = v' ∧ TM w0 w' D L Pb Bx Lr n s' x' last vals ∧ Chg (x.tf Pb L) (x'.tf Pb L) w w' := by
  obtain ⟨x', hv, hzz, hpl, hc⟩ := hp
  have lB := (Array.getElem?_eq_some_iff.1 h.box).1
  have lL := (Array.getElem?_eq_some_iff.1 h.row).1
  refine ⟨x', hv, ⟨hpl, (hc.block _ lB h.nB).trans h.box, (hc.block _ lL h.nL).trans h.row, fun j b hj => ?_, h.vlen, h.below.trans (hc.below h.below.size (fun k hk hf => by have := h.af0 k hf; omega)), fun k hk => ?_, hzz.trans h.hz, h.bx0, h.lr0, fun hk => ?_, fun hk => ?_⟩, hc⟩
  · obtain ⟨u, h1, h2⟩ := h.rd j b hj
    exact ⟨u, h1, RdV.keep h2 (fun k hk hn => hc.block k hk (fun e => hn (x.tf_af Pb L k e))) (fun k hk e => af_back hzz hc k hk e)⟩
  · rcases hc.foot k hk with h1 | h1
    · exact h.af0 k h1
    · have := h.below.size; omega
  · rcases hc.foot _ hk with h1 | h1
    · exact h.nB h1
    · omega
  · rcases hc.foot _ hk with h1 | h1
    · exact h.nL h1
    · omega

/-- what was put last is laid into the law's row -/
theorem TM.store (h : TM w0 w D L Pb Bx Lr n s x last vals) {k : Nat} (hk : k < n) (hln : last.length = n) {u : Value} {c : Bytes} (hu : RdB (x.af Pb L) w u c) : TM w0 (w.setCell ⟨Lr, k, none⟩ u) D L Pb Bx Lr n s x (last.set k c) (vals.set k u) := by
  have hZL : x.Z Lr := by rw [h.hz]; exact .inr rfl
  have ho : ∀ j, j ≠ Lr → (w.setCell ⟨Lr, k, none⟩ u).heap[j]? = w.heap[j]? := fun j hj => setCell_heap _ _ _ _ hj
  have hne : Bx ≠ Lr := blk_ne h.box h.row (by decide)
  have hrk : ∀ {v : Value} {b : Bytes}, RdB (x.af Pb L) w v b → RdB (x.af Pb L) (w.setCell ⟨Lr, k, none⟩ u) v b := fun hr => RdV.keep hr (fun j _ hn => ho j (fun e => hn (by rw [e]; exact .inl (.inr (.inr hZL))))) (fun _ _ e => e)
  refine ⟨⟨?_, ?_, ?_, h.pl.apart⟩, (ho Bx hne).trans h.box, ?_, fun j b hj => ?_, by rw [List.length_set]; exact h.vlen, h.below.setCell h.lr0 _, h.af0, h.hz, h.bx0, h.lr0, h.nB, h.nL⟩
  · exact h.pl.disk.frame (fun j _ hn => ho j (fun e => hn (by rw [e]; exact .inr (.inr hZL)))) (by rw [setCell_size]; exact Nat.le_refl _) (fun j hj => .inl hj)
  · refine h.pl.rep.keep (fun j _ hj => ho j (fun e => ?_)) (fun _ _ e => e)
    rw [e] at hj
    rcases hj with hj | hj
    · exact h.nL (.inl (.inl hj))
    · exact hj (.inl (.inr (.inr hZL)))
  · exact h.pl.mem.keep (fun j hj => ho j (fun e => h.nL (by rw [← e]; exact .inl (.inr hj))))
  · refine (setCell_blk h.row u).trans ?_
    simp
  · rw [List.getElem?_set] at hj
    by_cases hjk : k = j
    · subst hjk
      rw [if_pos rfl, if_pos (by omega)] at hj
      injection hj with hj
      subst hj
      exact ⟨u, List.getElem?_set_self (by rw [h.vlen]; exact hk), hrk hu⟩
    · rw [if_neg hjk] at hj
      obtain ⟨u', h1, h2⟩ := h.rd j b hj
      exact ⟨u', by rw [List.getElem?_set_ne hjk]; exact h1, hrk h2⟩

/-- Put, where the page is pinned and good -/
theorem put_T (h : TS w0 w D L Pb Bx Lr n i s x last vals) {k : Nat} (hp1 : Pin1 s k) {F : Foot} (bv : Value) (b : Bytes) (hb : RdB F w bv b) (hg : GoodP b) (l : Nat) (hl : l < s.lm.fin) (hl64 : l < 18446744073709551616) (hc2 : s.cost + 2 ≤ i + 3 * s.nrec) :
    Calls Tryz.prog 21 #[.pointer (some ⟨Pb, 0, none⟩), .int .i64 k, bv, .int .u64 (l : Int)] w fun e w' => e = .returned (.int .i64 0) ∧ ∃ s' x', TM w0 w' D L Pb Bx Lr n s' x' last vals ∧ Chg (x.tf Pb L) (x'.tf Pb L) w w' ∧
      TI n s' (last.set k (sealP b l)) ∧ Pin1 s' k ∧ s'.cost ≤ i + 3 * s'.nrec ∧ (1 ≤ s'.pm.fr.length ∧ s'.pm.fr.length ≤ 4) := by
  obtain ⟨fi, f, hf, hp, hpin, hoth⟩ := hp1
  have hzf := h.pl.frs fi
  rw [hf] at hzf
  obtain ⟨z, hz, rfl⟩ := Option.map_eq_some_iff.1 hzf.symm
  refine (put_yes h.pl k fi z hz hp (by omega) (by omega) bv b hb hg l).mono ?_
  rintro e w' ⟨rfl, v', hto⟩
  obtain ⟨x', -, htm, hc⟩ := h.tm.to hto
  have hfi := (List.getElem?_eq_some_iff.1 hf).1
  refine ⟨rfl, _, x', htm, hc, h.ti.put hf hp hg hl hl64, ⟨fi, _, List.getElem?_set_self hfi, hp, hpin, fun j g hj hne => ?_⟩, by obtain ⟨c1, c2⟩ := put_cost s hf b l; omega, by show 1 ≤ (s.pm.fr.set fi _).length ∧ (s.pm.fr.set fi _).length ≤ 4; rw [List.length_set]; exact h.frl⟩
  have hj : (s.pm.fr.set fi { z.1 with b := sealP b l, chg := true })[j]? = some g := hj
  rw [List.getElem?_set_ne (Ne.symm hne)] at hj
  exact hoth j g hj hne

theorem wr_T (h : TS w0 w D L Pb Bx Lr n i s x last vals) (hp0 : Pin0 s) (hi : i ≤ 3518437208882) (k : Nat) : Calls Tryz.prog 24 #[.pointer (some ⟨Pb, 0, none⟩), .int .i64 k] w fun e w' =>
    ∃ (kk : Int) (s' : PX) (x' : PZ), e = .returned (.int .i64 kk) ∧ (kk = 0 ∨ kk = 18) ∧ TS w0 w' D L Pb Bx Lr n i s' x' last vals ∧ Pin0 s' := by
  refine (wr_pl h.pl (by have := h.opsb hi; omega) h.ti.goodF k).mono ?_
  rintro e w' ⟨v', rfl, hto⟩
  obtain ⟨hI, hk, hpg, -⟩ := h.ti.wr (k : Int)
  have hlen : (s.wr (k : Int)).1.pm.fr.length = s.pm.fr.length := by have := congrArg List.length hpg; simpa using this
  obtain ⟨x', -, hts, -⟩ := h.to (i' := i) hto hI (by have := h.ti.wrC (k : Int); have := h.ops; omega) hlen
  refine ⟨_, _, x', rfl, hk, hts, ?_⟩
  unfold PX.wr
  split
  · exact hp0
  · split
    · exact hp0
    · exact hp0.out _

theorem Pin0.outs : ∀ (l : List Int) {s : PX}, Pin0 s → Pin0 (s.outs l).1
  | [], s, h => h
  | k :: l, s, h => by
    have h1 : Pin0 (s.wr k).1 := by
      unfold PX.wr
      split
      · exact h
      · split
        · exact h
        · exact h.out _
    unfold PX.outs
    split
    · exact h1
    · exact Pin0.outs l h1

theorem writeAll_T (h : TS w0 w D L Pb Bx Lr n i s x last vals) (hp0 : Pin0 s) (hi : i ≤ 3518437208882) : Calls Tryz.prog 25 #[.pointer (some ⟨Pb, 0, none⟩)] w fun e w' =>
    e = .returned (.int .i64 0) ∧ ∃ s' x', TS w0 w' D L Pb Bx Lr n i s' x' last vals ∧ Pin0 s' := by
  refine (writeAll_pl h.pl (by have := h.opsb hi; omega) h.ti.goodF (fun f hf => by have := h.ti.pg f hf; rw [h.ti.base]; exact this)).mono ?_
  rintro e w' ⟨v', rfl, hto⟩
  have hl : ∀ k ∈ s.heldL, 0 ≤ k ∧ ∃ f ∈ s.pm.fr, f.pg = k := fun k hk => by
    have h1 := (heldL_mem s k).1 hk
    exact ⟨h1.1.1, h1.2⟩
  obtain ⟨k0, hI, hpg⟩ := TI.outs s.heldL h.ti hl
  have hlen : (s.outs s.heldL).1.pm.fr.length = s.pm.fr.length := by have := congrArg List.length hpg; simpa using this
  have hhl : s.heldL.length ≤ 8 := by
    unfold PX.heldL
    refine Nat.le_trans (List.length_filter_le _ _) ?_
    rw [List.length_map, List.length_range, h.ti.base]
    exact h.n8.2
  obtain ⟨x', -, hts, -⟩ := h.to (i' := i) hto hI (by have := TI.outsC s.heldL h.ti; have := h.ops; omega) hlen
  exact ⟨by rw [k0], _, x', hts, hp0.outs _⟩

theorem sync_T (h : TS w0 w D L Pb Bx Lr n i s x last vals) (hp0 : Pin0 s) (hi : i ≤ 3518437208882) : Calls Tryz.prog 16 #[.pointer (some ⟨Pb, 0, none⟩)] w fun e w' =>
    e = .returned (.int .i64 0) ∧ ∃ s' x', TS w0 w' D L Pb Bx Lr n (i + 1) s' x' last vals ∧ Pin0 s' := by
  refine (sync_pl h.pl (by have := h.opsb hi; omega) h.ti.dts).mono ?_
  rintro e w' ⟨v', -, rfl, hto⟩
  obtain ⟨k0, hI, hfr⟩ := h.ti.sync
  obtain ⟨x', -, hts, -⟩ := h.to (i' := i + 1) hto hI (by
    have h9 := h.ops
    obtain ⟨c1, c2⟩ := h.ti.syncC
    omega) (by rw [hfr])
  exact ⟨by rw [k0], _, x', hts, by unfold Pin0; rw [hfr]; exact hp0⟩
end
end Mun
end
