/- Texts of mine, one behind the other: TeP, TeQ, TeR. -/
import Derived.Test.YtjfepmohoijalaaGreatPlK
import Derived.Test.YtjfepmohoijalaaGreatMgF
import Derived.Test.YtjfepmohoijalaaGreatMgS
section
/- What stays true of a device, a log and a pool while PoolTells plays: what is pinned is what was put last; what is not dirty is certain. No program. -/
set_option maxRecDepth 100000
set_option linter.unusedVariables false
set_option linter.unusedSimpArgs false
namespace Mun
open Go Go.RowKit
open Go.Proofs

structure TI (n : Nat) (s : PX) (last : List Bytes) : Prop where
  alive : s.dm.dead = false
  fuse : s.dm.fuse = -1
  base : s.dm.base.length = n
  log : s.dm.log = s.lm.bytes
  lastl : last.length = n
  small : s.lm.base = 1
  fle : s.lm.base + s.lm.forced ≤ s.lm.fin
  uniq : ∀ (i j : Nat) (f g : FM), s.pm.fr[i]? = some f → s.pm.fr[j]? = some g → f.pg = g.pg → 0 ≤ f.pg → i = j
  pg : ∀ f ∈ s.pm.fr, f.pg < n
  fb : ∀ f ∈ s.pm.fr, 0 ≤ f.pg → last[f.pg.toNat]? = some f.b
  chg : ∀ f ∈ s.pm.fr, f.chg = true → 0 ≤ f.pg ∧ GoodP f.b ∧ gt f.b 4 8 < s.lm.fin ∧ ∃ r, dlook s.pm.dt f.pg = some (r, true)
  clean : ∀ f ∈ s.pm.fr, 0 ≤ f.pg → f.chg = false → s.dm.page f.pg.toNat = f.b
  out : ∀ j, j < n → (∀ f ∈ s.pm.fr, f.pg ≠ (j : Int)) → last[j]? = some (s.dm.page j)
  chk : ∀ b ∈ last, checkP b = 0 ∧ b.length = 512
  dchk : ∀ j, j < n → checkP (s.dm.page j) = 0
  lsn : ∀ j, j < n → s.dm.page j = page0 ∨ gt (s.dm.page j) 4 8 < s.lm.base + s.lm.forced
  dts : DtS s.pm.dt
  dpg : ∀ p ∈ s.pm.dt, 0 ≤ p.1 ∧ p.1 < n
  cert : ∀ j, j < n → dlook s.pm.dt (j : Int) = none → last[j]? = some (s.dm.base.getD j page0) ∧ ∀ p ∈ s.dm.waiting, p.1 ≠ j
  written : ∀ (j : Int) (r : Nat), dlook s.pm.dt j = some (r, false) → ∀ f ∈ s.pm.fr, f.pg = j → f.chg = false

/-- an operation that is counted, on a device without a fuse -/
theorem spend_live {m : DM} (h : m.fuse = -1) : m.spend = { m with ops := m.ops + 1 } := by
  unfold DM.spend
  rw [h]
  rw [if_neg (by omega), if_neg (by omega)]
theorem force_live {m : DM} (hd : m.dead = false) (h : m.fuse = -1) : m.force = ({ m with ops := m.ops + 1, certain := m.log.length }, 0) := by
  unfold DM.force
  rw [if_neg (by rw [hd]; simp), if_neg (by rw [h]; omega), spend_live h]
theorem write_live {m : DM} (hd : m.dead = false) (h : m.fuse = -1) (n : Nat) (hn : n < m.base.length) (b : Bytes) (hb : b.length = 512) : m.write (n : Int) b = ({ m with ops := m.ops + 1, waiting := m.waiting ++ [(n, b)] }, 0) := by
  unfold DM.write
  rw [if_neg (by rw [hd]; simp), if_neg (by simp [hb]; omega), if_neg (by rw [h]; omega), spend_live h, Int.toNat_natCast]
theorem sync_live {m : DM} (hd : m.dead = false) (h : m.fuse = -1) : m.sync = ({ m with ops := m.ops + 1, base := m.settled, waiting := [] }, 0) := by
  unfold DM.sync
  rw [if_neg (by rw [hd]; simp), if_neg (by rw [h]; omega), spend_live h]
theorem append_live {m : DM} (hd : m.dead = false) (h : m.fuse = -1) (b : Bytes) : m.append b = if m.room < m.log.length + b.length then (m, 7) else ({ m with ops := m.ops + 1, log := m.log ++ b }, 0) := by
  unfold DM.append
  rw [if_neg (by rw [hd]; simp)]
  split
  · rfl
  · rw [if_neg (by rw [h]; omega), spend_live h]

theorem page_write (m : DM) (n : Nat) (b : Bytes) (o : Nat) (j : Nat) : ({ m with ops := o, waiting := m.waiting ++ [(n, b)] } : DM).page j = if j = n then b else m.page j := by
  unfold DM.page
  simp only
  rw [lastW_snoc]
  by_cases h : n = j
  · subst h; simp
  · rw [if_neg h, if_neg (fun e => h e.symm)]

theorem fin_push (m : LM) : (m.push r1).fin = m.fin + 14 := by
  show m.base + lenL (m.recs ++ [r1]) = m.base + lenL m.recs + 14
  rw [lenL_append]
  simp [lenL, r1_len]
  omega
theorem forced_le {w : World} {D L Pb : Nat} {s : PX} {x : PZ} (h : PL w D L Pb s x) : s.lm.base + s.lm.forced ≤ s.lm.fin := by
  have := h.mem.wf.forced
  show _ ≤ s.lm.base + lenL s.lm.recs
  omega

/-- the frames have turned, not their pages -/
theorem TI.frames {n : Nat} {s : PX} {last : List Bytes} (h : TI n s last) {fr : List FM} {hand : Nat} (he : fr.map (fun f => (f.pg, f.b, f.chg)) = s.pm.fr.map (fun f => (f.pg, f.b, f.chg))) : TI n { s with pm := { s.pm with fr := fr, hand := hand } } last := by
  have hl : fr.length = s.pm.fr.length := by have := congrArg List.length he; simpa using this
  have hi : ∀ (i : Nat) (f : FM), fr[i]? = some f → ∃ g, s.pm.fr[i]? = some g ∧ g.pg = f.pg ∧ g.b = f.b ∧ g.chg = f.chg := fun i f hf => by
    have h1 := congrArg (fun l => l[i]?) he
    simp only [List.getElem?_map, hf, Option.map_some] at h1
    obtain ⟨g, hg, h2⟩ := Option.map_eq_some_iff.1 h1.symm
    injection h2 with h2 h3
    injection h3 with h3 h4
    exact ⟨g, hg, h2, h3, h4⟩
  have hj : ∀ (i : Nat) (f : FM), s.pm.fr[i]? = some f → ∃ g, fr[i]? = some g ∧ g.pg = f.pg := fun i f hf => by
    have h1 := congrArg (fun l => l[i]?) he
    simp only [List.getElem?_map, hf, Option.map_some] at h1
    obtain ⟨g, hg, h2⟩ := Option.map_eq_some_iff.1 h1
    injection h2 with h2 h3
    exact ⟨g, hg, h2⟩
  have hm : ∀ f ∈ fr, ∃ g ∈ s.pm.fr, g.pg = f.pg ∧ g.b = f.b ∧ g.chg = f.chg := fun f hf => by
    obtain ⟨i, hi', rfl⟩ := List.getElem_of_mem hf
    obtain ⟨g, hg, h2⟩ := hi i _ (List.getElem?_eq_getElem hi')
    exact ⟨g, List.mem_of_getElem? hg, h2⟩
  have hm2 : ∀ f ∈ s.pm.fr, ∃ g ∈ fr, g.pg = f.pg := fun f hf => by
    obtain ⟨i, hi', rfl⟩ := List.getElem_of_mem hf
    obtain ⟨g, hg, h2⟩ := hj i _ (List.getElem?_eq_getElem hi')
    exact ⟨g, List.mem_of_getElem? hg, h2⟩
  refine ⟨h.alive, h.fuse, h.base, h.log, h.lastl, h.small, h.fle, fun i j f g hf hg e h0 => ?_, fun f hf => ?_, fun f hf h0 => ?_, fun f hf hc => ?_, fun f hf h0 hc => ?_, fun j hjn hno => ?_, h.chk, h.dchk, h.lsn, h.dts, h.dpg, h.cert, fun j r hd f hf hp => ?_⟩
  · obtain ⟨f', hf', e1, -⟩ := hi i f hf
    obtain ⟨g', hg', e2, -⟩ := hi j g hg
    exact h.uniq i j f' g' hf' hg' (by rw [e1, e2, e]) (by rw [e1]; exact h0)
  · obtain ⟨g, hg, e1, -⟩ := hm f hf
    rw [← e1]; exact h.pg g hg
  · obtain ⟨g, hg, e1, e2, -⟩ := hm f hf
    rw [← e1, ← e2]; exact h.fb g hg (by rw [e1]; exact h0)
  · obtain ⟨g, hg, e1, e2, e3⟩ := hm f hf
    rw [← e1, ← e2]; exact h.chg g hg (by rw [e3]; exact hc)
  · obtain ⟨g, hg, e1, e2, e3⟩ := hm f hf
    show s.dm.page _ = _
    rw [← e1, ← e2]; exact h.clean g hg (by rw [e1]; exact h0) (by rw [e3]; exact hc)
  · refine h.out j hjn fun f hf e => ?_
    obtain ⟨g, hg, e1⟩ := hm2 f hf
    exact hno g hg (by rw [e1, e])
  · obtain ⟨g, hg, e1, e2, e3⟩ := hm f hf
    rw [← e3]; exact h.written j r hd g hg (by rw [e1, hp])

/-- a page's LSN is forced -/
theorem TI.force {n : Nat} {s : PX} {last : List Bytes} (h : TI n s last) (l : Nat) :
    (s.force l).2 = 0 ∧ TI n (s.force l).1 last ∧ (s.force l).1.pm = s.pm ∧ (l < s.lm.fin → l < (s.force l).1.lm.base + (s.force l).1.lm.forced) ∧ (s.force l).1.lm.fin = s.lm.fin ∧ (∀ j, (s.force l).1.dm.page j = s.dm.page j) := by
  unfold PX.force
  split
  · rename_i hl
    exact ⟨rfl, h, rfl, fun _ => hl, rfl, fun _ => rfl⟩
  · rw [force_live h.alive h.fuse]
    simp only [if_true]
    refine ⟨trivial, ⟨h.alive, h.fuse, h.base, h.log, h.lastl, h.small, Nat.le_refl _, h.uniq, h.pg, h.fb, h.chg, h.clean, h.out, h.chk, h.dchk, fun j hj => ?_, h.dts, h.dpg, h.cert, h.written⟩, trivial, fun hl => ?_, rfl, fun j => rfl⟩
    · rcases h.lsn j hj with h1 | h1
      · exact .inl h1
      · right
        show gt (s.dm.page j) 4 8 < s.lm.base + lenL s.lm.recs
        have : s.lm.fin = s.lm.base + lenL s.lm.recs := rfl
        have := h.fle
        omega
    · exact hl

/-- a frame's page is written out -/
theorem TI.outI {n : Nat} {s : PX} {last : List Bytes} (h : TI n s last) (i : Nat) :
    (s.out i).2 = 0 ∧ TI n (s.out i).1 last ∧ (∀ f, (s.out i).1.pm.fr[i]? = some f → f.chg = true → f.pg < 0) ∧ (s.out i).1.lm.fin = s.lm.fin ∧ (s.out i).1.pm.hand = s.pm.hand := by
  unfold PX.out
  cases hf : s.pm.fr[i]? with
  | none => exact ⟨rfl, h, fun f hf2 => (by simp only at hf2; rw [hf] at hf2; cases hf2), rfl, rfl⟩
  | some f =>
    simp only
    have hm := List.mem_of_getElem? hf
    by_cases hq : f.pg < 0 ∨ f.chg = false
    · rw [if_pos hq]
      refine ⟨rfl, h, fun g hg hc => ?_, rfl, rfl⟩
      simp only at hg
      rw [hf] at hg
      injection hg with hg
      subst hg
      rcases hq with hq | hq
      · exact hq
      · rw [hq] at hc; cases hc
    · rw [if_neg hq]
      obtain ⟨hq0, hq1⟩ := not_or.1 hq
      have hc : f.chg = true := by cases hc : f.chg; exact absurd hc hq1; rfl
      obtain ⟨h0, hgd, hls, r, hdl⟩ := h.chg f hm hc
      obtain ⟨k0, hI, hpm, hlf, hfin, hpgs⟩ := h.force (gt f.b 4 8)
      obtain ⟨s1, hs1⟩ : ∃ s1, (s.force (gt f.b 4 8)).1 = s1 := ⟨_, rfl⟩
      rw [hs1] at hI hpm hlf hfin hpgs ⊢
      rw [if_neg (by rw [k0]; simp)]
      have hpn := h.pg f hm
      obtain ⟨q, hqe⟩ : ∃ q : Nat, f.pg = (q : Int) := ⟨f.pg.toNat, by omega⟩
      have hqn : q < n := by omega
      have hb5 : f.b.length = 512 := hgd.len
      rw [hqe, write_live hI.alive hI.fuse q (by rw [hI.base]; exact hqn) f.b hb5]
      simp only [ne_eq, not_true_eq_false, if_false]
      have hfq : last[q]? = some f.b := by have := h.fb f hm h0; rw [hqe] at this; simpa using this
      have hpw := page_write s1.dm q f.b (s1.dm.ops + 1)
      have hdr : drec s.pm.dt (q : Int) = r := by unfold drec; rw [← hqe, hdl]; rfl
      have hil := (List.getElem?_eq_some_iff.1 hf).1
      have hother : ∀ g ∈ s.pm.fr.set i f.clean, g = f.clean ∨ (g ∈ s.pm.fr ∧ g.pg ≠ (q : Int)) := fun g hg => by
        obtain ⟨j, hj, rfl⟩ := List.getElem_of_mem hg
        rw [List.length_set] at hj
        by_cases hij : i = j
        · left; subst hij; simp
        · right
          rw [List.getElem_set_ne hij]
          exact ⟨List.getElem_mem _, fun e => hij (h.uniq i j f _ hf (List.getElem?_eq_getElem hj) (by rw [hqe, e]) h0)⟩
      refine ⟨trivial, ⟨hI.alive, hI.fuse, hI.base, hI.log, hI.lastl, hI.small, hI.fle, fun a b g k hg hk e hp0 => ?_, fun g hg => ?_, fun g hg hp0 => ?_, fun g hg hcg => ?_, fun g hg hp0 hcg => ?_, fun j hj hno => ?_, h.chk, fun j hj => ?_, fun j hj => ?_, h.dts.dset _ _, fun p hp => ?_, fun j hj hn => ?_, fun j r' hd g hg hp => ?_⟩, fun g hg hcg => ?_, hfin, trivial⟩
      · have h5 : ∀ (a : Nat) (g : FM), (s.pm.fr.set i f.clean)[a]? = some g → ∃ g', s.pm.fr[a]? = some g' ∧ g'.pg = g.pg := fun a g hg => by
          rw [List.getElem?_set] at hg
          by_cases hia : i = a
          · subst hia
            rw [if_pos rfl, if_pos hil] at hg
            injection hg with hg
            subst hg
            exact ⟨f, hf, rfl⟩
          · rw [if_neg hia] at hg
            exact ⟨g, hg, rfl⟩
        obtain ⟨g', hg', e1⟩ := h5 a g hg
        obtain ⟨k', hk', e2⟩ := h5 b k hk
        exact h.uniq a b g' k' hg' hk' (by rw [e1, e2, e]) (by rw [e1]; exact hp0)
      · rcases hother g hg with rfl | ⟨hg, -⟩
        · exact hpn
        · exact h.pg g hg
      · rcases hother g hg with rfl | ⟨hg, -⟩
        · exact h.fb f hm hp0
        · exact h.fb g hg hp0
      · rcases hother g hg with rfl | ⟨hg, hne⟩
        · cases hcg
        · obtain ⟨a1, a2, a3, r2, a4⟩ := h.chg g hg hcg
          refine ⟨a1, a2, by show _ < s1.lm.fin; rw [hfin]; exact a3, r2, ?_⟩
          rw [dlook_dset, if_neg hne]
          exact a4
      · show DM.page _ _ = _
        rw [hpw]
        rcases hother g hg with rfl | ⟨hg, hne⟩
        · rw [if_pos (by show f.pg.toNat = q; omega)]; rfl
        · rw [if_neg (by have hp0' : 0 ≤ g.pg := hp0; omega), hpgs]
          exact h.clean g hg hp0 hcg
      · show _ = some (DM.page _ _)
        rw [hpw]
        by_cases hjq : j = q
        · rw [if_pos hjq, hjq]; exact hfq
        · rw [if_neg hjq, hpgs]
          refine h.out j hj fun g hg e => ?_
          obtain ⟨a, ha, rfl⟩ := List.getElem_of_mem hg
          have hia : i ≠ a := fun e2 => by
            subst e2
            rw [List.getElem?_eq_getElem ha] at hf
            injection hf with hf
            rw [hf, hqe] at e
            omega
          exact hno _ (List.mem_of_getElem? (i := a) (by rw [List.getElem?_set_ne hia]; exact List.getElem?_eq_getElem ha)) e
      · show checkP (DM.page _ _) = 0
        rw [hpw]
        split
        · exact (h.chk f.b (List.mem_of_getElem? hfq)).1
        · rw [hpgs]; exact h.dchk j hj
      · show DM.page _ _ = _ ∨ gt (DM.page _ _) 4 8 < _
        rw [hpw]
        split
        · exact .inr (hlf hls)
        · exact hI.lsn j hj
      · rcases dset_mem hp with rfl | hp
        · exact ⟨by show (0 : Int) ≤ (q : Int); omega, by show (q : Int) < n; omega⟩
        · exact h.dpg p hp
      · rw [dlook_dset] at hn
        by_cases hjq : (j : Int) = (q : Int)
        · rw [if_pos hjq] at hn; cases hn
        · rw [if_neg hjq] at hn
          obtain ⟨a1, a2⟩ := hI.cert j hj (by rw [hpm]; exact hn)
          refine ⟨a1, fun p hp => ?_⟩
          rcases List.mem_append.1 hp with hp | hp
          · exact a2 p hp
          · rw [List.mem_singleton] at hp
            subst hp
            show q ≠ j
            omega
      · rcases hother g hg with rfl | ⟨hg, hne⟩
        · rfl
        · rw [dlook_dset, if_neg (by rw [← hp]; exact hne)] at hd
          exact h.written j r' hd g hg hp
      · rw [List.getElem?_set_self hil] at hg
        injection hg with hg
        subst hg
        cases hcg
end Mun
end

section
/- More of what stays true while PoolTells plays: pages read in, put, written, made certain. No program. -/
set_option maxRecDepth 100000
set_option linter.unusedVariables false
set_option linter.unusedSimpArgs false
namespace Mun
open Go Go.RowKit
open Go.Proofs

theorem set_cases {fr : List FM} {i j : Nat} {f g : FM} (h : (fr.set i f)[j]? = some g) : (i = j ∧ g = f ∧ i < fr.length) ∨ (i ≠ j ∧ fr[j]? = some g) := by
  rw [List.getElem?_set] at h
  by_cases hij : i = j
  · subst hij
    rw [if_pos rfl] at h
    split at h
    · rename_i hl
      injection h with h
      exact .inl ⟨rfl, h.symm, hl⟩
    · cases h
  · rw [if_neg hij] at h
    exact .inr ⟨hij, h⟩

/-- a page is read into a frame that is not changed -/
theorem TI.setNew {n : Nat} {s : PX} {last : List Bytes} (h : TI n s last) {i k : Nat} {f : FM} (hf : s.pm.fr[i]? = some f) (hc : f.chg = false) (hk : k < n) (hno : ∀ g ∈ s.pm.fr, g.pg ≠ (k : Int)) (p : Nat) (t : Bool) :
    TI n { s with pm := { s.pm with fr := s.pm.fr.set i ⟨(k : Int), s.dm.page k, p, t, false⟩ } } last := by
  have hm := List.mem_of_getElem? hf
  have hmem : ∀ g ∈ s.pm.fr.set i ⟨(k : Int), s.dm.page k, p, t, false⟩, g = ⟨(k : Int), s.dm.page k, p, t, false⟩ ∨ g ∈ s.pm.fr := fun g hg => (List.mem_or_eq_of_mem_set hg).symm
  refine ⟨h.alive, h.fuse, h.base, h.log, h.lastl, h.small, h.fle, fun a b g g' hg hg' e h0 => ?_, fun g hg => ?_, fun g hg h0 => ?_, fun g hg hcg => ?_, fun g hg h0 hcg => ?_, fun j hj hn => ?_, h.chk, h.dchk, h.lsn, h.dts, h.dpg, h.cert, fun j r hd g hg hp => ?_⟩
  · rcases set_cases hg with ⟨e1, e2, -⟩ | ⟨e1, hg⟩ <;> rcases set_cases hg' with ⟨e3, e4, -⟩ | ⟨e3, hg'⟩
    · rw [← e1, ← e3]
    · rw [e2] at e; exact absurd e.symm (hno g' (List.mem_of_getElem? hg'))
    · rw [e4] at e; exact absurd e (hno g (List.mem_of_getElem? hg))
    · exact h.uniq a b g g' hg hg' e h0
  · rcases hmem g hg with rfl | hg
    · show (k : Int) < n; omega
    · exact h.pg g hg
  · rcases hmem g hg with rfl | hg
    · show last[((k : Nat) : Int).toNat]? = _
      rw [Int.toNat_natCast]
      exact h.out k hk hno
    · exact h.fb g hg h0
  · rcases hmem g hg with rfl | hg
    · cases hcg
    · exact h.chg g hg hcg
  · rcases hmem g hg with rfl | hg
    · show s.dm.page ((k : Nat) : Int).toNat = _
      rw [Int.toNat_natCast]
    · exact h.clean g hg h0 hcg
  · show _ = some (s.dm.page j)
    by_cases hjf : f.pg = (j : Int)
    · have h1 := h.fb f hm (by omega)
      have h2 := h.clean f hm (by omega) hc
      have e : f.pg.toNat = j := by omega
      rw [e] at h1 h2
      rw [h2]; exact h1
    · refine h.out j hj fun g hg e => ?_
      obtain ⟨a, ha, rfl⟩ := List.getElem_of_mem hg
      have hia : i ≠ a := fun e2 => by
        subst e2
        rw [List.getElem?_eq_getElem ha] at hf
        injection hf with hf
        rw [hf] at e
        exact hjf e
      exact hn _ (List.mem_of_getElem? (i := a) (by rw [List.getElem?_set_ne hia]; exact List.getElem?_eq_getElem ha)) e
  · rcases hmem g hg with rfl | hg
    · rfl
    · exact h.written j r hd g hg hp

theorem out_len (s : PX) (i : Nat) : (s.out i).1.pm.fr.length = s.pm.fr.length := by have := congrArg List.length (out_pgs s i); simpa using this

theorem TI.pin1 {n : Nat} {s : PX} {last : List Bytes} (h : TI n s last) {i k : Nat} (hi : i < s.pm.fr.length) (hk : k < n) (hno : ∀ g ∈ s.pm.fr, g.pg ≠ (k : Int)) :
    (s.pin1 k i).2 = 0 ∧ TI n (s.pin1 k i).1 last ∧ last[k]? = some ((s.out i).1.dm.page k) ∧ (s.pin1 k i).1.pm.fr = (s.out i).1.pm.fr.set i ⟨(k : Int), (s.out i).1.dm.page k, 1, true, false⟩ := by
  obtain ⟨k0, hI, hcl, -, -⟩ := h.outI i
  have hi' : i < (s.out i).1.pm.fr.length := by rw [out_len]; exact hi
  have hno' : ∀ g ∈ (s.out i).1.pm.fr, g.pg ≠ (k : Int) := fun g hg e => by
    have h1 : g.pg ∈ (s.out i).1.pm.fr.map (·.pg) := List.mem_map_of_mem hg
    rw [out_pgs] at h1
    obtain ⟨g', hg', e'⟩ := List.mem_map.1 h1
    exact hno g' hg' (by rw [e', e])
  obtain ⟨f, hf⟩ : ∃ f, (s.out i).1.pm.fr[i]? = some f := ⟨_, List.getElem?_eq_getElem hi'⟩
  have hc : f.chg = false := by
    cases hc : f.chg with
    | false => rfl
    | true =>
      have h1 := hcl f hf hc
      have h2 := (hI.chg f (List.mem_of_getElem? hf) hc).1
      omega
  have e : s.pin1 k i = ({ (s.out i).1 with pm := { (s.out i).1.pm with fr := (s.out i).1.pm.fr.set i ⟨(k : Int), (s.out i).1.dm.page k, 1, true, false⟩ } }, 0) := by
    unfold PX.pin1
    rw [if_neg (by rw [k0]; simp), if_neg (by rw [hI.alive]; simp), if_neg (by rw [hI.dchk k hk]; simp)]
  rw [e]
  exact ⟨rfl, hI.setNew hf hc hk hno' 1 true, hI.out k hk hno', rfl⟩

theorem TI.put {n : Nat} {s : PX} {last : List Bytes} (h : TI n s last) {i k : Nat} {f : FM} (hf : s.pm.fr[i]? = some f) (hp : f.pg = (k : Int)) {b : Bytes} (hb : GoodP b) {l : Nat} (hl : l < s.lm.fin) (hl64 : l < 18446744073709551616) :
    TI n (s.put i f b l) (last.set k (sealP b l)) := by
  have hm := List.mem_of_getElem? hf
  have hk : k < n := by have := h.pg f hm; omega
  have hkl : k < last.length := by rw [h.lastl]; exact hk
  obtain ⟨y, hy⟩ : ∃ y : FM, y = { f with b := sealP b l, chg := true } := ⟨_, rfl⟩
  have hyp : y.pg = (k : Int) := by rw [hy]; exact hp
  have hother : ∀ g ∈ s.pm.fr.set i y, g = y ∨ (g ∈ s.pm.fr ∧ g.pg ≠ (k : Int)) := fun g hg => by
    obtain ⟨j, hj, rfl⟩ := List.getElem_of_mem hg
    rw [List.length_set] at hj
    by_cases hij : i = j
    · left; subst hij; simp
    · right
      rw [List.getElem_set_ne hij]
      exact ⟨List.getElem_mem _, fun e => hij (h.uniq i j f _ hf (List.getElem?_eq_getElem hj) (by rw [hp, e]) (by omega))⟩
  have hlast : ∀ j : Nat, j ≠ k → (last.set k (sealP b l))[j]? = last[j]? := fun j hj => List.getElem?_set_ne (Ne.symm hj)
  have hdt : (s.put i f b l).pm.dt = dset s.pm.dt (k : Int) (((dlook s.pm.dt (k : Int)).map (·.1)).getD l, true) := by unfold PX.put; rw [hp]
  have hfr : (s.put i f b l).pm.fr = s.pm.fr.set i y := by rw [hy]; rfl
  refine ⟨h.alive, h.fuse, h.base, h.log, by rw [List.length_set]; exact h.lastl, h.small, h.fle, fun a b' g g' hg hg' e h0 => ?_, fun g hg => ?_, fun g hg h0 => ?_, fun g hg hcg => ?_, fun g hg h0 hcg => ?_, fun j hj hn => ?_, fun c hc => ?_, h.dchk, h.lsn, by rw [hdt]; exact h.dts.dset _ _, fun p hp' => ?_, fun j hj hn => ?_, fun j r hd g hg hp' => ?_⟩
  · rw [hfr] at hg hg'
    rcases set_cases hg with ⟨e1, e2, -⟩ | ⟨e1, hg⟩ <;> rcases set_cases hg' with ⟨e3, e4, -⟩ | ⟨e3, hg'⟩
    · rw [← e1, ← e3]
    · exact absurd (h.uniq i b' f g' hf hg' (by rw [hp, ← hyp, ← e2, e]) (by omega)) e3
    · exact absurd (h.uniq i a f g hf hg (by rw [hp, ← hyp, ← e4, ← e]) (by omega)) e1
    · exact h.uniq a b' g g' hg hg' e h0
  · rw [hfr] at hg
    rcases hother g hg with rfl | ⟨hg, -⟩
    · rw [hyp]; omega
    · exact h.pg g hg
  · rw [hfr] at hg
    rcases hother g hg with rfl | ⟨hg, hne⟩
    · rw [hyp, Int.toNat_natCast, List.getElem?_set_self hkl, hy]
    · rw [hlast _ (by omega)]; exact h.fb g hg h0
  · rw [hfr] at hg
    show _ ∧ _ ∧ _ < s.lm.fin ∧ _
    rcases hother g hg with rfl | ⟨hg, hne⟩
    · refine ⟨by rw [hyp]; omega, by rw [hy]; exact (seal_same hb.len l).good hb, by rw [hy]; show gt (sealP b l) 4 8 < _; rw [gt_seal_lsn hb.len l hl64]; exact hl, ((dlook s.pm.dt (k : Int)).map (·.1)).getD l, ?_⟩
      rw [hdt, dlook_dset, if_pos hyp]
    · obtain ⟨a1, a2, a3, r2, a4⟩ := h.chg g hg hcg
      refine ⟨a1, a2, a3, r2, ?_⟩
      rw [hdt, dlook_dset, if_neg hne]
      exact a4
  · rw [hfr] at hg
    rcases hother g hg with rfl | ⟨hg, hne⟩
    · rw [hy] at hcg; cases hcg
    · exact h.clean g hg h0 hcg
  · rw [hfr] at hn
    have hjk : j ≠ k := fun e => by
      refine hn y (List.mem_of_getElem? (i := i) (List.getElem?_set_self (List.getElem?_eq_some_iff.1 hf).1)) ?_
      rw [hyp, e]
    rw [hlast j hjk]
    refine h.out j hj fun g hg e => ?_
    obtain ⟨a, ha, rfl⟩ := List.getElem_of_mem hg
    have hia : i ≠ a := fun e2 => by
      subst e2
      rw [List.getElem?_eq_getElem ha] at hf
      injection hf with hf
      rw [hf, hp] at e
      omega
    exact hn _ (List.mem_of_getElem? (i := a) (by rw [List.getElem?_set_ne hia]; exact List.getElem?_eq_getElem ha)) e
  · rcases List.mem_or_eq_of_mem_set hc with h1 | h1
    · exact h.chk c h1
    · rw [h1]; exact ⟨check_seal hb l, seal_len hb.len l⟩
  · rw [hdt] at hp'
    rcases dset_mem hp' with rfl | hp'
    · exact ⟨by show (0 : Int) ≤ (k : Int); omega, by show (k : Int) < n; omega⟩
    · exact h.dpg p hp'
  · rw [hdt, dlook_dset] at hn
    by_cases hjk : (j : Int) = (k : Int)
    · rw [if_pos hjk] at hn; cases hn
    · rw [if_neg hjk] at hn
      rw [hlast j (by omega)]
      exact h.cert j hj hn
  · rw [hfr] at hg
    rw [hdt, dlook_dset] at hd
    by_cases hjk : j = (k : Int)
    · rw [if_pos hjk] at hd
      injection hd with hd
      injection hd with _ hd
      cases hd
    · rw [if_neg hjk] at hd
      rcases hother g hg with rfl | ⟨hg, hne⟩
      · rw [hyp] at hp'; exact absurd hp'.symm hjk
      · exact h.written j r hd g hg hp'

theorem TI.app {n : Nat} {s : PX} {last : List Bytes} (h : TI n s last) : TI n s.app.1 last ∧ (s.app.2 = 0 ∨ s.app.2 = 7) ∧ (s.app.2 = 0 → s.app.1.lm.fin = s.lm.fin + 14) ∧ s.app.1.pm = s.pm := by
  unfold PX.app
  rw [append_live h.alive h.fuse]
  by_cases hr : s.dm.room < s.dm.log.length + (recB r1 s.lm.fin).length
  · rw [if_pos hr, if_pos (show (s.dm, (7 : Int)).2 ≠ 0 by simp)]
    exact ⟨h, .inr rfl, fun e => absurd (show (7 : Int) = 0 from e) (by decide), rfl⟩
  · rw [if_neg hr, if_neg (fun e => e rfl)]
    refine ⟨⟨h.alive, h.fuse, h.base, ?_, h.lastl, h.small, ?_, h.uniq, h.pg, h.fb, fun f hf hc => ?_, h.clean, h.out, h.chk, h.dchk, h.lsn, h.dts, h.dpg, h.cert, h.written⟩, .inl rfl, fun _ => fin_push _, rfl⟩
    · show s.dm.log ++ recB r1 s.lm.fin = (s.lm.push r1).bytes
      rw [LM.push_bytes, h.log]
    · show s.lm.base + s.lm.forced ≤ (s.lm.push r1).fin
      rw [fin_push]
      have := h.fle
      omega
    · obtain ⟨a1, a2, a3, a4⟩ := h.chg f hf hc
      refine ⟨a1, a2, ?_, a4⟩
      show _ < (s.lm.push r1).fin
      rw [fin_push]
      omega

theorem TI.sync {n : Nat} {s : PX} {last : List Bytes} (h : TI n s last) : s.sync.2 = 0 ∧ TI n s.sync.1 last ∧ s.sync.1.pm.fr = s.pm.fr := by
  have e : s.sync = ({ s with dm := { s.dm with ops := s.dm.ops + 1, base := s.dm.settled, waiting := [] }, pm := { s.pm with dt := s.pm.dt.filter (·.2.2) } }, 0) := by
    unfold PX.sync
    rw [sync_live h.alive h.fuse]
    simp
  rw [e]
  have hsl : s.dm.settled.length = n := by rw [settled_length]; exact h.base
  have hpg : ∀ j, j < n → ({ s.dm with ops := s.dm.ops + 1, base := s.dm.settled, waiting := [] } : DM).page j = s.dm.page j := fun j hj => by
    unfold DM.page
    simp only [lastW_nil, Option.getD_none]
    exact settled_getD s.dm j (by rw [h.base]; exact hj)
  have hdl : ∀ j : Int, dlook (s.pm.dt.filter (·.2.2)) j = (dlook s.pm.dt j).filter (·.2) := fun j => dlook_filter h.dts j
  refine ⟨rfl, ⟨h.alive, h.fuse, hsl, h.log, h.lastl, h.small, h.fle, h.uniq, h.pg, h.fb, fun f hf hc => ?_, fun f hf h0 hc => ?_, fun j hj hn => ?_, h.chk, fun j hj => ?_, fun j hj => ?_, h.dts.filter _, fun p hp => h.dpg p (List.mem_filter.1 hp).1, fun j hj hn => ?_, fun j r hd f hf hp => ?_⟩, rfl⟩
  · obtain ⟨a1, a2, a3, r, a4⟩ := h.chg f hf hc
    refine ⟨a1, a2, a3, r, ?_⟩
    show dlook (s.pm.dt.filter (·.2.2)) f.pg = _
    rw [hdl, a4]; rfl
  · show DM.page _ _ = _
    rw [hpg _ (by have := h.pg f hf; omega)]
    exact h.clean f hf h0 hc
  · show _ = some (DM.page _ _)
    rw [hpg j hj]; exact h.out j hj hn
  · show checkP (DM.page _ _) = 0
    rw [hpg j hj]; exact h.dchk j hj
  · show DM.page _ _ = _ ∨ gt (DM.page _ _) 4 8 < _
    rw [hpg j hj]; exact h.lsn j hj
  · have hn : dlook (s.pm.dt.filter (·.2.2)) (j : Int) = none := hn
    rw [hdl] at hn
    refine ⟨?_, fun p hp => by cases hp⟩
    show _ = some (s.dm.settled.getD j page0)
    rw [settled_getD s.dm j (by rw [h.base]; exact hj)]
    by_cases hin : ∃ f ∈ s.pm.fr, f.pg = (j : Int)
    · obtain ⟨f, hf, hp⟩ := hin
      have hc : f.chg = false := by
        cases hc : f.chg with
        | false => rfl
        | true =>
          obtain ⟨a1, a2, a3, r, a4⟩ := h.chg f hf hc
          rw [hp] at a4
          rw [a4] at hn
          cases hn
      have h1 := h.fb f hf (by omega)
      have h2 := h.clean f hf (by omega) hc
      have e : f.pg.toNat = j := by omega
      rw [e] at h1 h2
      rw [h2]; exact h1
    · exact h.out j hj fun f hf e => hin ⟨f, hf, e⟩
  · have hd : dlook (s.pm.dt.filter (·.2.2)) j = some (r, false) := hd
    rw [hdl, Option.filter_eq_some_iff] at hd
    cases hd.2

/-- Write: nothing goes wrong -/
theorem TI.wr {n : Nat} {s : PX} {last : List Bytes} (h : TI n s last) (k : Int) : TI n (s.wr k).1 last ∧ ((s.wr k).2 = 0 ∨ (s.wr k).2 = 18) ∧ (s.wr k).1.pm.fr.map (·.pg) = s.pm.fr.map (·.pg) ∧ (0 ≤ k → (∃ f ∈ s.pm.fr, f.pg = k) → (s.wr k).2 = 0) := by
  unfold PX.wr
  split
  · rename_i hk
    exact ⟨h, .inr rfl, rfl, fun h0 => by omega⟩
  · cases hf : s.pm.find k with
    | none =>
      refine ⟨h, .inr rfl, rfl, fun h0 ⟨f, hm, hp⟩ => ?_⟩
      have := List.findIdx?_eq_none_iff.1 hf f hm
      simp [hp] at this
    | some i =>
      obtain ⟨k0, hI, -, -, -⟩ := h.outI i
      exact ⟨hI, .inl k0, out_pgs s i, fun _ _ => k0⟩
theorem TI.outs {n : Nat} {last : List Bytes} : ∀ (l : List Int) {s : PX}, TI n s last → (∀ k ∈ l, 0 ≤ k ∧ ∃ f ∈ s.pm.fr, f.pg = k) → (s.outs l).2 = 0 ∧ TI n (s.outs l).1 last ∧ (s.outs l).1.pm.fr.map (·.pg) = s.pm.fr.map (·.pg)
  | [], s, h, _ => ⟨rfl, h, rfl⟩
  | k :: l, s, h, hl => by
    obtain ⟨h1, h2, h3, h4⟩ := h.wr k
    have h5 := h4 (hl k (List.mem_cons_self ..)).1 (hl k (List.mem_cons_self ..)).2
    unfold PX.outs
    rw [if_neg (by rw [h5]; simp)]
    obtain ⟨a1, a2, a3⟩ := TI.outs l h1 fun k' hk' => by
      obtain ⟨b1, f, hf, b2⟩ := hl k' (List.mem_cons_of_mem _ hk')
      have h6 : k' ∈ (s.wr k).1.pm.fr.map (·.pg) := by rw [h3, ← b2]; exact List.mem_map_of_mem hf
      obtain ⟨f', hf', b3⟩ := List.mem_map.1 h6
      exact ⟨b1, f', hf', b3⟩
    exact ⟨a1, a2, a3.trans h3⟩
end Mun
end

section
/- How many operations a device has counted, while PoolTells plays: each page written out was changed before. No program. -/
set_option maxRecDepth 100000
set_option linter.unusedVariables false
set_option linter.unusedSimpArgs false
namespace Mun
open Go Go.RowKit
open Go.Proofs

def PX.nchg (s : PX) : Nat := s.pm.fr.countP (·.chg)
/-- what is spent, and what is owed -/
def PX.cost (s : PX) : Nat := s.dm.ops + 2 * s.nchg
def PX.nrec (s : PX) : Nat := s.lm.recs.length

theorem countP_set' {fr : List FM} {i : Nat} {f g : FM} (h : fr[i]? = some f) : (fr.set i g).countP (·.chg) + (if f.chg then 1 else 0) = fr.countP (·.chg) + (if g.chg then 1 else 0) := by
  induction fr generalizing i with
  | nil => simp at h
  | cons a fr ih =>
    cases i with
    | zero =>
      simp only [List.getElem?_cons_zero, Option.some.injEq] at h
      subst h
      simp only [List.set_cons_zero, List.countP_cons]
      omega
    | succ i =>
      simp only [List.getElem?_cons_succ] at h
      have := ih h
      simp only [List.set_cons_succ, List.countP_cons]
      omega
theorem nchg_map {fr fr' : List FM} (h : fr.map (fun f => (f.pg, f.b, f.chg)) = fr'.map (fun f => (f.pg, f.b, f.chg))) : fr.countP (·.chg) = fr'.countP (·.chg) := by
  have h1 : ∀ l : List FM, l.countP (·.chg) = (l.map (fun f => (f.pg, f.b, f.chg))).countP (·.2.2) := fun l => by rw [List.countP_map]; rfl
  rw [h1, h1, h]

theorem force_recs (s : PX) (n : Nat) : (s.force n).1.lm.recs = s.lm.recs := by
  unfold PX.force
  split
  · rfl
  · show (if s.dm.force.2 = 0 then s.lm.done else s.lm).recs = _
    split <;> rfl

section
variable {n : Nat} {s : PX} {last : List Bytes}

theorem TI.outC (h : TI n s last) (i : Nat) : (s.out i).1.cost ≤ s.cost ∧ (s.out i).1.nrec = s.nrec := by
  unfold PX.out
  cases hf : s.pm.fr[i]? with
  | none => exact ⟨Nat.le_refl _, rfl⟩
  | some f =>
    simp only
    by_cases hq : f.pg < 0 ∨ f.chg = false
    · rw [if_pos hq]; exact ⟨Nat.le_refl _, rfl⟩
    · rw [if_neg hq]
      have hm := List.mem_of_getElem? hf
      obtain ⟨hq0, hq1⟩ := not_or.1 hq
      have hc : f.chg = true := by cases hc : f.chg; exact absurd hc hq1; rfl
      obtain ⟨h0, hgd, hls, r, hdl⟩ := h.chg f hm hc
      obtain ⟨k0, hI, hpm, -⟩ := h.force (gt f.b 4 8)
      have hops := force_ops s (gt f.b 4 8)
      have hrec := force_recs s (gt f.b 4 8)
      obtain ⟨s1, hs1⟩ : ∃ s1, (s.force (gt f.b 4 8)).1 = s1 := ⟨_, rfl⟩
      rw [hs1] at hI hpm hops hrec ⊢
      rw [if_neg (by rw [k0]; simp)]
      have hpn := h.pg f hm
      obtain ⟨q, hqe⟩ : ∃ q : Nat, f.pg = (q : Int) := ⟨f.pg.toNat, by omega⟩
      rw [hqe, write_live hI.alive hI.fuse q (by rw [hI.base]; omega) f.b hgd.len]
      simp only [ne_eq, not_true_eq_false, if_false]
      have hcs := countP_set' (g := f.clean) hf
      rw [hc] at hcs
      refine ⟨?_, by show s1.lm.recs.length = _; rw [hrec]; rfl⟩
      show s1.dm.ops + 1 + 2 * (s.pm.fr.set i f.clean).countP (·.chg) ≤ s.dm.ops + 2 * s.pm.fr.countP (·.chg)
      have hcl : f.clean.chg = false := rfl
      rw [hcl] at hcs
      simp at hcs
      omega
theorem TI.wrC (h : TI n s last) (k : Int) : (s.wr k).1.cost ≤ s.cost ∧ (s.wr k).1.nrec = s.nrec := by
  unfold PX.wr
  split
  · exact ⟨Nat.le_refl _, rfl⟩
  · split
    · exact ⟨Nat.le_refl _, rfl⟩
    · exact h.outC _
theorem TI.outsC : ∀ (l : List Int) {s : PX}, TI n s last → (s.outs l).1.cost ≤ s.cost ∧ (s.outs l).1.nrec = s.nrec
  | [], s, h => ⟨Nat.le_refl _, rfl⟩
  | k :: l, s, h => by
    obtain ⟨a1, a2⟩ := h.wrC k
    unfold PX.outs
    split
    · exact ⟨a1, a2⟩
    · obtain ⟨b1, b2⟩ := TI.outsC l (h.wr k).1
      exact ⟨Nat.le_trans b1 a1, b2.trans a2⟩
theorem TI.pin1C (h : TI n s last) {i k : Nat} (hi : i < s.pm.fr.length) (hk : k < n) (hno : ∀ g ∈ s.pm.fr, g.pg ≠ (k : Int)) : (s.pin1 k i).1.cost ≤ s.cost ∧ (s.pin1 k i).1.nrec = s.nrec := by
  obtain ⟨a1, a2⟩ := h.outC i
  obtain ⟨k0, hI, hcl, -, -⟩ := h.outI i
  obtain ⟨-, -, -, hfr⟩ := h.pin1 hi hk hno
  have hi' : i < (s.out i).1.pm.fr.length := by rw [out_len]; exact hi
  have hcs := countP_set' (g := (⟨(k : Int), (s.out i).1.dm.page k, 1, true, false⟩ : FM)) (List.getElem?_eq_getElem hi')
  have ho : (s.pin1 k i).1.dm.ops = (s.out i).1.dm.ops := by unfold PX.pin1; split; rfl; split; rfl; split <;> rfl
  have hr : (s.pin1 k i).1.lm = (s.out i).1.lm := by unfold PX.pin1; split; rfl; split; rfl; split <;> rfl
  refine ⟨Nat.le_trans ?_ a1, by show (s.pin1 k i).1.lm.recs.length = _; rw [hr]; exact a2⟩
  show (s.pin1 k i).1.dm.ops + 2 * (s.pin1 k i).1.pm.fr.countP (·.chg) ≤ (s.out i).1.dm.ops + 2 * (s.out i).1.pm.fr.countP (·.chg)
  rw [ho, hfr]
  simp only [Bool.false_eq_true, if_false] at hcs
  omega
theorem TI.syncC (h : TI n s last) : s.sync.1.cost = s.cost + 1 ∧ s.sync.1.nrec = s.nrec := by
  obtain ⟨-, -, hfr⟩ := h.sync
  have ho : s.sync.1.dm.ops = s.dm.ops + 1 := by
    unfold PX.sync
    rw [sync_live h.alive h.fuse]
    split <;> rfl
  have hr : s.sync.1.lm = s.lm := by unfold PX.sync; split <;> rfl
  refine ⟨?_, by show s.sync.1.lm.recs.length = _; rw [hr]; rfl⟩
  show s.sync.1.dm.ops + 2 * s.sync.1.pm.fr.countP (·.chg) = s.dm.ops + 2 * s.pm.fr.countP (·.chg) + 1
  rw [ho, hfr]
  omega
theorem TI.appC (h : TI n s last) : s.app.1.cost ≤ s.cost + 1 ∧ s.nrec ≤ s.app.1.nrec ∧ (s.app.2 = 0 → s.app.1.nrec = s.nrec + 1) ∧ (s.app.2 ≠ 0 → s.app.1.cost = s.cost) := by
  unfold PX.app
  rw [append_live h.alive h.fuse]
  by_cases hr : s.dm.room < s.dm.log.length + (recB r1 s.lm.fin).length
  · rw [if_pos hr, if_pos (show (s.dm, (7 : Int)).2 ≠ 0 by simp)]
    exact ⟨Nat.le_succ _, Nat.le_refl _, fun e => absurd (show (7 : Int) = 0 from e) (by decide), fun _ => rfl⟩
  · rw [if_neg hr, if_neg (fun e => e rfl)]
    refine ⟨?_, ?_, fun _ => ?_, fun e => absurd rfl e⟩
    · show s.dm.ops + 1 + 2 * s.pm.fr.countP (·.chg) ≤ s.dm.ops + 2 * s.pm.fr.countP (·.chg) + 1
      omega
    · show s.lm.recs.length ≤ (s.lm.recs ++ [r1]).length
      simp
    · show (s.lm.recs ++ [r1]).length = s.lm.recs.length + 1
      simp
theorem put_cost (s : PX) {i : Nat} {f : FM} (hf : s.pm.fr[i]? = some f) (b : Bytes) (l : Nat) : (s.put i f b l).cost ≤ s.cost + 2 ∧ (s.put i f b l).nrec = s.nrec := by
  have hcs := countP_set' (g := ({ f with b := sealP b l, chg := true } : FM)) hf
  refine ⟨?_, rfl⟩
  show s.dm.ops + 2 * (s.pm.fr.set i { f with b := sealP b l, chg := true }).countP (·.chg) ≤ s.dm.ops + 2 * s.pm.fr.countP (·.chg) + 2
  simp only [if_true] at hcs
  omega
end
end Mun
end
