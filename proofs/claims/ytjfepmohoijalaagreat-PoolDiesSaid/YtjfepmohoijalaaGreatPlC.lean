/- Pin of a page that is in no frame: another page may be written out for it. Printed by wip/tools/genpin.py. -/
import Derived.Test.YtjfepmohoijalaaGreatMgM
set_option maxRecDepth 100000
set_option linter.unusedVariables false
set_option linter.unusedSimpArgs false
namespace Mun
open Go Go.RowKit
open Go.Proofs

theorem MapOk.drop {fs : List FV} {es : List (Int × Value)} {i : Nat} {x : FV} (h : MapOk fs es) (hx : fs[i]? = some x) (y : FV) (hy : y.1.pg < 0) (es' : List (Int × Value))
    (he : ∀ m, alook es' m = if m = x.1.pg then none else alook es m) : MapOk (fs.set i y) es' := by
  have hl := (List.getElem?_eq_some_iff.1 hx).1
  refine ⟨fun j z hz hz0 => ?_, fun m u hu => ?_⟩
  · by_cases hij : i = j
    · subst hij
      rw [List.getElem?_set_self hl] at hz
      injection hz with hz
      subst hz
      omega
    · rw [List.getElem?_set_ne hij] at hz
      have h1 := h.here j z hz hz0
      have h3 : z.1.pg ≠ x.1.pg := fun e => hij (h.one hx hz e.symm (e ▸ hz0))
      rw [he, if_neg h3, h1]
  · rw [he] at hu
    by_cases hmx : m = x.1.pg
    · rw [if_pos hmx] at hu; cases hu
    · rw [if_neg hmx] at hu
      obtain ⟨hm0, j, z, rfl, hz, hp⟩ := h.there m u hu
      refine ⟨hm0, j, z, rfl, ?_, hp⟩
      have hij : i ≠ j := fun e => by
        subst e
        rw [hx] at hz
        injection hz with hz
        subst hz
        exact hmx hp.symm
      rw [List.getElem?_set_ne hij]
      exact hz

theorem RawAt.toPL {w0 w : World} {D L Pb : Nat} {s : PX} {x : PZ} (h0 : PL w0 D L Pb s x) {fs : List FV} {es : List (Int × Value)} (h : RawAt w0 w D L Pb (fun k => lfoot L x.bv x.sv k ∨ x.Z k) x.Fd s.dm s.pm.hand x.v fs es) (hl : fs.length = x.v.fs.length) (hok : MapOk fs es) :
    PTo w0 D L Pb x { s with pm := { s.pm with fr := fs.map (·.1) } } { x.v with fs := fs, es := es } w := by
  have hp : PRep w Pb D L (x.af Pb L) { s.pm with fr := fs.map (·.1) } { x.v with fs := fs, es := es } :=
    ⟨h.blk, h.fbl, rfl, h.rd, h.mp, hok, h.dt, h0.rep.dlk, h.ne, by show _ < fs.length; rw [hl]; exact h0.rep.hand, by show fs.length ≤ _; rw [hl]; exact h0.rep.big⟩
  obtain ⟨h1, h2⟩ := h0.pool1 (v' := { x.v with fs := fs, es := es }) rfl hp h.chg
  exact ⟨{ x with v := { x.v with fs := fs, es := es } }, rfl, rfl, h1, h2⟩

/-- the page read into a frame: i is the frame that was found -/
noncomputable def PX.pin1 (s : PX) (n i : Nat) : PX × Int :=
  if (s.out i).2 ≠ 0 then s.out i
  else if (s.out i).1.dm.dead = true then ({ (s.out i).1 with pm := { (s.out i).1.pm with fr := (s.out i).1.pm.fr.set i FM.none } }, 9)
  else if checkP ((s.out i).1.dm.page n) ≠ 0 then ({ (s.out i).1 with pm := { (s.out i).1.pm with fr := (s.out i).1.pm.fr.set i FM.none } }, checkP ((s.out i).1.dm.page n))
  else ({ (s.out i).1 with pm := { (s.out i).1.pm with fr := (s.out i).1.pm.fr.set i ⟨(n : Int), (s.out i).1.dm.page n, 1, true, false⟩ } }, 0)

theorem write_base (m : DM) (n : Int) (b : Bytes) : (m.write n b).1.base = m.base := by
  unfold DM.write
  split
  · rfl
  · split
    · rfl
    · split <;> exact spend_base m
theorem force_base (m : DM) : m.force.1.base = m.base := by
  unfold DM.force
  split
  · rfl
  · split <;> exact spend_base m
theorem pforce_base (s : PX) (n : Nat) : (s.force n).1.dm.base = s.dm.base := by
  unfold PX.force
  split
  · rfl
  · exact force_base _
theorem out_base (s : PX) (i : Nat) : (s.out i).1.dm.base = s.dm.base := by
  unfold PX.out
  split
  · rfl
  · split
    · rfl
    · split
      · exact pforce_base _ _
      · split
        · exact (write_base _ _ _).trans (pforce_base _ _)
        · exact (write_base _ _ _).trans (pforce_base _ _)

def PinPost (w : World) (D L Pb : Nat) (x : PZ) (s : PX) (n : Nat) (e : Ending) (w' : World) : Prop :=
  ∃ r p1 v1, FoundIs s.pm x.v r p1 v1 ∧
    ((r = -1 ∧ e = .returned (.tuple #[.slice none 0 0, .int .i64 7]) ∧ PTo w D L Pb x s x.v w') ∨
     ∃ i : Nat, r = (i : Int) ∧ ∃ v', PTo w D L Pb x (PX.pin1 { s with pm := p1 } n i).1 v' w' ∧
       (((PX.pin1 { s with pm := p1 } n i).2 ≠ 0 ∧ e = .returned (.tuple #[.slice none 0 0, .int .i64 (PX.pin1 { s with pm := p1 } n i).2])) ∨
        ((PX.pin1 { s with pm := p1 } n i).2 = 0 ∧ ∃ g, e = .returned (.tuple #[.slice (some ⟨g, 0, none⟩) 512 512, .int .i64 0]) ∧
          OwnB w' w.heap.size 5 (.slice (some ⟨g, 0, none⟩) 512 512) ((PX.out { s with pm := p1 } i).1.dm.page n))))

set_option maxHeartbeats 8000000 in
theorem pin_pl {w : World} {D L Pb : Nat} {s : PX} {x : PZ} (h : PL w D L Pb s x) (ho : s.dm.ops < 4398046511103) (n : Nat) (hn : n < s.dm.base.length) (hnone : alook x.v.es n = none) (hgood : ∀ f ∈ x.v.fs, f.1.chg = true → GoodP f.1.b) :
    Calls Tryz.prog 15 #[.pointer (some ⟨Pb, 0, none⟩), .int .i64 n] w (PinPost w D L Pb x s n) := by
  have hpg := d_pages w D _ _ h.disk
  have hfo := p_found w Pb D L _ s.pm x.v h.rep h.af_foot
  have c0 : w.cell? ⟨Pb, 0, none⟩ = some (.pointer (some ⟨D, 0, none⟩)) := by rw [h.rep.cell 0]; simp [pcells]
  have c3 : w.cell? ⟨Pb, 3, none⟩ = some (.map (some x.v.Mw)) := by rw [h.rep.cell 3]; simp [pcells]
  have hlk := h.rep.ask n
  rw [hnone] at hlk
  simp only [Option.getD_none, Option.isSome_none] at hlk
  obtain ⟨m, hm⟩ : ∃ m, s.dm.base.length = m := ⟨_, rfl⟩
  rw [hm] at hpg
  have q1 : (0 : Int) ≤ (n : Int) := by omega
  have q2 : (n : Int) < (m : Int) := by omega
  have HX := Lib.hid (And.intro h (And.intro hn (And.intro hnone (And.intro hgood ho))))
  have HPG := Lib.hid hpg
  have HFO := Lib.hid hfo
  clear h hn hnone hgood hpg hfo hm ho
  go_enter Tryz.func15, Tryz.ntmps15
  go_wp2_with fail
  refine HPG.out.mono ?_
  rintro e w' ⟨rfl, rfl⟩
  go_wp2_with fail
  refine HFO.out.mono ?_
  rintro e w5 ⟨r, p1, v1, hfd, rfl, hrep5, hg5⟩
  obtain ⟨h, hn, hnone, hgood, ho⟩ := HX.out
  rcases hfd.split with ⟨rfl, rfl, rfl, ha, hpin⟩ | ⟨i, f, rfl, hx, hv1, hsame, hfree⟩
  · obtain ⟨h5, c5⟩ := h.pool1 rfl hrep5 hg5
    have hpost : PinPost w D L Pb x s n (.returned (.tuple #[.slice none 0 0, .int .i64 7])) w5 := ⟨-1, _, _, hfd, .inl ⟨rfl, rfl, { x with v := x.v }, rfl, rfl, h5, c5⟩⟩
    have HR := Lib.hid hpost
    clear hfd hrep5 hg5 h hn hnone hgood ho ha hpin hlk c3 c0 h5 c5 hpost
    go_wp2
    go_ret2
    exact HR.out
  · have hG : v1.G = x.v.G := by rw [hv1]
    have hes : v1.es = x.v.es := by rw [hv1]
    have hft : pfoot Pb v1 = pfoot Pb x.v := by rw [hv1]; rfl
    have hg1 : f.1.chg = true → GoodP f.1.b := by
      have hil : i < x.v.fs.length := by rw [← hsame.1]; exact (List.getElem?_eq_some_iff.1 hx).1
      obtain ⟨y, hy, e1, e2, e3, e4, e5⟩ := hsame.2 i _ (List.getElem?_eq_getElem hil)
      rw [hx] at hy
      injection hy with hy
      rw [hy, e4, e2]
      exact hgood _ (List.getElem_mem hil)
    obtain ⟨h5, c5⟩ := h.pool1 hft hrep5 hg5
    have hout := out_pl h5 ho i f hx hg1
    obtain ⟨⟨s2, k⟩, hq⟩ : ∃ q, PX.out ({ s with pm := p1 } : PX) i = q := ⟨_, rfl⟩
    rw [hq] at hout
    have hbs : s2.dm.base = s.dm.base := by have h9 := out_base { s with pm := p1 } i; rw [hq] at h9; exact h9
    have hpin : PX.pin1 { s with pm := p1 } n i = if k ≠ 0 then (s2, k) else if s2.dm.dead = true then ({ s2 with pm := { s2.pm with fr := s2.pm.fr.set i FM.none } }, 9)
        else if checkP (s2.dm.page n) ≠ 0 then ({ s2 with pm := { s2.pm with fr := s2.pm.fr.set i FM.none } }, checkP (s2.dm.page n))
        else ({ s2 with pm := { s2.pm with fr := s2.pm.fr.set i ⟨(n : Int), s2.dm.page n, 1, true, false⟩ } }, 0) := by unfold PX.pin1; rw [hq]
    obtain ⟨ln, hln⟩ : ∃ ln, v1.fs.length = ln := ⟨_, rfl⟩
    obtain ⟨G, hGG⟩ : ∃ G, v1.G = G := ⟨_, rfl⟩
    have d2 : w5.cell? ⟨Pb, 2, none⟩ = some (.slice (some ⟨G, 0, none⟩) ln ln) := by rw [hrep5.cell 2]; simp [pcells, hln, hGG]
    have q3 : (i : Int) < (ln : Int) := by have := (List.getElem?_eq_some_iff.1 hx).1; omega
    have q4 : (0 : Int) ≤ (i : Int) := by omega
    obtain ⟨pg, hpge⟩ : ∃ pg, f.1.pg = pg := ⟨_, rfl⟩
    have hfin : ∀ e w', (∃ v', PTo w D L Pb x (PX.pin1 { s with pm := p1 } n i).1 v' w' ∧
       (((PX.pin1 { s with pm := p1 } n i).2 ≠ 0 ∧ e = .returned (.tuple #[.slice none 0 0, .int .i64 (PX.pin1 { s with pm := p1 } n i).2])) ∨
        ((PX.pin1 { s with pm := p1 } n i).2 = 0 ∧ ∃ g, e = .returned (.tuple #[.slice (some ⟨g, 0, none⟩) 512 512, .int .i64 0]) ∧
          OwnB w' w.heap.size 5 (.slice (some ⟨g, 0, none⟩) 512 512) (s2.dm.page n)))) → PinPost w D L Pb x s n e w' := fun e w' h9 => ⟨(i : Int), p1, v1, hfd, .inr ⟨i, rfl, by rw [hq]; exact h9⟩⟩
    rw [show ({ x with v := v1 } : PZ).v.G = G from hGG] at hout
    have HO := Lib.hid hout
    have HFIN := Lib.hid hfin
    have HPIN := Lib.hid hpin
    have HZ := Lib.hid (And.intro h (And.intro hn (And.intro hnone (And.intro hx (And.intro hes (And.intro hGG (And.intro hpge (And.intro hbs c5))))))))
    clear hfd hrep5 hg5 h hn hnone hgood ho hx hv1 hsame hfree hG hes hft hg1 h5 c5 hout hq hpin hln hGG hpge hfin hbs HX HFO HPG hlk c0 c3
    go_wp2_with fail
    refine HO.out.mono ?_
    rintro e w6 ⟨v6, hov, he, ⟨Fd6, v6', bv6, sv6, Z6⟩, hv6, hz6, h6, c6⟩
    obtain rfl : v6' = v6 := hv6
    obtain rfl : e = .returned (.int .i64 k) := he
    have h6 : PL w6 D L Pb s2 ⟨Fd6, v6', bv6, sv6, Z6⟩ := h6
    obtain ⟨h, hn, hnone, hx, hes, hGG, hpge, hbs, c5⟩ := HZ.out
    have c06 : Chg (x.tf Pb L) (PZ.tf ⟨Fd6, v6', bv6, sv6, Z6⟩ Pb L) w w6 := c5.trans c6
    by_cases hk0 : k = 0
    · subst hk0
      have hG6 : v6'.G = G := hov.G.trans hGG
      have hes6 : v6'.es = x.v.es := hov.es.trans hes
      obtain ⟨f6, hx6, hp6⟩ : ∃ f6, v6'.fs[i]? = some f6 ∧ f6.1.pg = pg := by
        rcases hov.fs with h1 | h1
        · exact ⟨f, by rw [h1]; exact hx, hpge⟩
        · exact ⟨(f.1.clean, f.2), by rw [h1]; exact List.getElem?_set_self (List.getElem?_eq_some_iff.1 hx).1, hpge⟩
      have hr5 : RawAt w6 w6 D L Pb (fun k => lfoot L bv6 sv6 k ∨ Z6 k) Fd6 s2.dm s2.pm.hand v6' v6'.fs v6'.es := RawAt.of h6.rep h6.disk (Chg.refl _ _)
      obtain ⟨k0, k1, k2, k3, k4⟩ := fc5 h6.rep.fbl hx6
      have kg : w6.cell? ⟨G, i * 5, none⟩ = some (.int .i64 pg) := by rw [← hG6, ← hp6]; exact k0
      have kgd : w6.drew.cell? ⟨G, i * 5, none⟩ = some (.int .i64 pg) := kg
      clear k0
      have d3 : w6.cell? ⟨Pb, 3, none⟩ = some (.map (some v6'.Mw)) := by rw [h6.rep.cell 3]; simp [pcells]
      have hnn : n < s2.dm.base.length := by rw [hbs]; exact hn
      have hnone6 : alook v6'.es n = none := by rw [hes6]; exact hnone
      have HY := Lib.hid (And.intro h6 (And.intro c06 (And.intro hG6 (And.intro hx6 (And.intro hp6 (And.intro hnn hnone6))))))
      clear h hn hnone hx hes hGG hpge hbs c5 HZ hov c6 c06 k1 k2 k3 k4 hes6 hnn hnone6 HO d2
      by_cases hneg : pg < 0
      · obtain ⟨w7, hw7e⟩ : ∃ w7, w6 = w7 := ⟨_, rfl⟩
        obtain ⟨es6, hes6⟩ : ∃ es6, es6 = v6'.es := ⟨_, rfl⟩
        have hr6 : RawAt w6 w7 D L Pb (fun k => lfoot L bv6 sv6 k ∨ Z6 k) Fd6 s2.dm s2.pm.hand v6' v6'.fs es6 := by rw [← hw7e, hes6]; exact hr5
        have he6 : ∀ m, alook es6 m = if m = f6.1.pg then none else alook v6'.es m := fun m => by
          rw [hes6, hp6]
          by_cases hm : m = pg
          · rw [if_pos hm]
            cases hc : alook v6'.es m with
            | none => rfl
            | some u =>
              have := (h6.rep.mok.there m u hc).1
              omega
          · rw [if_neg hm]
        have hG6' : v6'.G = G := hG6
        obtain ⟨w8, hw8⟩ : ∃ w8, w7.setCells G (i * 5) (#[.int .i64 (-1), .slice none 0 0, .int .i64 0, .bool false, .bool false] : Array Value).toList = w8 := ⟨_, rfl⟩
        have hr8 : RawAt w6 w8 D L Pb (fun k => lfoot L bv6 sv6 k ∨ Z6 k) Fd6 s2.dm s2.pm.hand v6' (v6'.fs.set i fv1) es6 := by rw [← hw8, ← hG6]; exact hr6.setF hx6 fv1 (RdB.nil _ _)
        have ht7 : w7.there G (i * 5) 5 := by rw [← hG6]; exact frame_there hr6.fbl hx6
        have c80 : w8.cell? ⟨Pb, 0, none⟩ = some (.pointer (some ⟨D, 0, none⟩)) := by rw [hr8.cell 0]; simp [pcells]
        have hnoF : PTo w6 D L Pb ⟨Fd6, v6', bv6, sv6, Z6⟩ { s2 with pm := { s2.pm with fr := s2.pm.fr.set i FM.none } } { v6' with fs := v6'.fs.set i fv1, es := es6 } w8 := by
          have h9 := hr8.toPL h6 (by simp) (h6.rep.mok.drop hx6 fv1 (by decide) es6 he6)
          rw [show ((v6'.fs.set i fv1).map (·.1)) = s2.pm.fr.set i FM.none by rw [List.map_set, h6.rep.frs]; rfl] at h9
          exact h9
        have HT7 := Lib.hid ht7
        have HNO := Lib.hid hnoF
        have HR8 := Lib.hid (And.intro hr8 he6)
        clear hr6 hr8 ht7 hnoF he6 hG6'
        subst hw7e
        clear h6 hr5 hes6 hx6 hp6 hG6
        go_wp2_with (first | (refine wpList_store_mid rfl _ _ _ rfl G (i * 5) #[.int .i64 (-1), .slice none 0 0, .int .i64 0, .bool false, .bool false] (by simp [Act.eval, Act.put]) (by simp [Act.eval, Act.put]) HT7.out infoFr (by simp [Value.oneCell']) ?_; rw [hw8]))
        obtain ⟨h6, c06, hG6, hx6, hp6, hnn, hnone6⟩ := HY.out
        obtain ⟨hr8, he6⟩ := HR8.out
        by_cases hdd : s2.dm.dead = true
        · refine (d_read_dead w8 D _ _ hr8.disk hdd n).mono ?_
          rintro e w' ⟨rfl, rfl⟩
          have hpost : PinPost w D L Pb x s n (.returned (.tuple #[.slice none 0 0, .int .i64 9])) w8 := by
            refine HFIN.out _ _ ?_
            rw [HPIN.out, if_neg (by simp), if_pos hdd]
            obtain ⟨x9, hx9, hz9, h9, c9⟩ := HNO.out
            exact ⟨_, ⟨x9, hx9, hz9.trans hz6, h9, c06.trans c9⟩, .inl ⟨by simp, rfl⟩⟩
          have HP := Lib.hid hpost
          clear h6 c06 hG6 hx6 hp6 hnn hnone6 hr8 he6 hdd hpost c80 d3
          go_wp2
          go_ret2
          exact HP.out
        · have hal : s2.dm.dead = false := by cases hd : s2.dm.dead; rfl; exact absurd hd hdd
          have hread := d_read w8 D _ _ hr8.disk hal n hnn
          refine hread.mono ?_
          rintro e w9 ⟨rfl, hw9⟩
          have hpl : (s2.dm.page n).length = 512 := DM.page_length h6.disk.wf n hnn
          have hb9 : Below w8.heap.size w8 w9 := by rw [← hw9]; exact (Below.refl _ _).alloc (Nat.le_refl _) _
          have hr9 := hr8.below hb9
          have hnew : ¬ ((pfoot Pb v6' w8.heap.size ∨ (lfoot L bv6 sv6 w8.heap.size ∨ Z6 w8.heap.size)) ∨ Fd6 w8.heap.size) := by
            intro e
            rcases e with e | e
            · exact Nat.lt_irrefl _ (hr8.disk.E_lt _ e)
            · exact Nat.lt_irrefl _ (hr8.disk.foot_lt _ e)
          have hrd9 : RdB (fun k => (pfoot Pb v6' k ∨ (lfoot L bv6 sv6 k ∨ Z6 k)) ∨ Fd6 k) w9 (.slice (some ⟨w8.heap.size, 0, none⟩) 512 512) (s2.dm.page n) := by
            have h9 := bobj_rd (F := fun k => (pfoot Pb v6' k ∨ (lfoot L bv6 sv6 k ∨ Z6 k)) ∨ Fd6 k) w8 (s2.dm.page n) 512 hpl.symm (by rw [hpl]; unfold maxLen; omega) hnew
            rw [hpl, hw9] at h9
            exact h9
          have hck := check_any w9 _ _ hrd9
          obtain ⟨kc, hkc⟩ : ∃ kc, checkP (s2.dm.page n) = kc := ⟨_, rfl⟩
          rw [hkc] at hck
          obtain ⟨g8, hg8⟩ : ∃ g8, w8.heap.size = g8 := ⟨_, rfl⟩
          rw [hg8] at hrd9 hck ⊢
          have HCK := Lib.hid hck
          have HV := Lib.hid (And.intro hpl (And.intro hr9 (And.intro hrd9 (And.intro hkc (And.intro hal hb9)))))
          clear h6 c06 hG6 hx6 hp6 hnn hnone6 hr8 he6 hdd hal hread hpl hb9 hr9 hnew hrd9 hck hkc hw9 c80
          go_wp2_with fail
          refine HCK.out.mono ?_
          rintro e w10 ⟨rfl, hb10⟩
          obtain ⟨h6, c06, hG6, hx6, hp6, hnn, hnone6⟩ := HY.out
          obtain ⟨hpl, hr9, hrd9, hkc, hal, hb9⟩ := HV.out
          obtain ⟨hr8, he6⟩ := HR8.out
          have hr10 := hr9.below hb10
          by_cases hkc0 : kc = 0
          · subst hkc0
            have hx10 : (v6'.fs.set i fv1)[i]? = some fv1 := List.getElem?_set_self (List.getElem?_eq_some_iff.1 hx6).1
            have ht10 : w10.there G (i * 5) 5 := by rw [← hG6]; exact frame_there hr10.fbl hx10
            obtain ⟨w11, hw11⟩ : ∃ w11, w10.setCells G (i * 5) (#[.int .i64 (n : Int), .slice (some ⟨g8, 0, none⟩) 512 512, .int .i64 1, .bool true, .bool false] : Array Value).toList = w11 := ⟨_, rfl⟩
            have hr11 : RawAt w6 w11 D L Pb (fun k => lfoot L bv6 sv6 k ∨ Z6 k) Fd6 s2.dm s2.pm.hand v6' ((v6'.fs.set i fv1).set i (readF n (s2.dm.page n) g8)) es6 := by
              rw [← hw11, ← hG6]
              exact hr10.setF hx10 (readF n (s2.dm.page n) g8) (RdB.below hrd9 hb10)
            rw [List.set_set] at hr11
            have c113 : w11.cell? ⟨Pb, 3, none⟩ = some (.map (some v6'.Mw)) := by rw [hr11.cell 3]; simp [pcells]
            obtain ⟨o12, es12, hup, hm12, he12⟩ := imap_update (P := Tryz.prog) Tryz.underlying97 Tryz.underlying3 hr11.mp (n : Int) (.int .i64 (i : Int))
            obtain ⟨w12, hw12⟩ : ∃ w12, setObjW w11 v6'.Mw o12 = w12 := ⟨_, rfl⟩
            have hr12 := hr11.obj o12 hm12
            rw [hw12] at hup hr12
            have hrd12 : RdB (fun k => (pfoot Pb v6' k ∨ (lfoot L bv6 sv6 k ∨ Z6 k)) ∨ Fd6 k) w12 (.slice (some ⟨g8, 0, none⟩) 512 512) (s2.dm.page n) := hr12.rd (readF n (s2.dm.page n) g8) (List.mem_of_getElem? (List.getElem?_set_self (List.getElem?_eq_some_iff.1 hx6).1))
            have hcl := pclone w12 _ _ hrd12 (by rw [hpl]; omega)
            rw [hpl] at hcl
            have hok : MapOk (v6'.fs.set i (readF n (s2.dm.page n) g8)) es12 := h6.rep.mok.put hx6 n (by omega) hnone6 _ rfl es12 (fun m => by rw [he12]; split <;> simp_all)
            have hend : ∀ w13, Below w12.heap.size w12 w13 → PTo w6 D L Pb ⟨Fd6, v6', bv6, sv6, Z6⟩ { s2 with pm := { s2.pm with fr := s2.pm.fr.set i ⟨(n : Int), s2.dm.page n, 1, true, false⟩ } } { v6' with fs := v6'.fs.set i (readF n (s2.dm.page n) g8), es := es12 } w13 := fun w13 hb => by
              have h9 := (hr12.below hb).toPL h6 (by simp) hok
              rw [show ((v6'.fs.set i (readF n (s2.dm.page n) g8)).map (·.1)) = s2.pm.fr.set i ⟨(n : Int), s2.dm.page n, 1, true, false⟩ by rw [List.map_set, h6.rep.frs]; rfl] at h9
              exact h9
            have hsz : w.heap.size ≤ w12.heap.size := Nat.le_trans c06.size hr12.chg.size
            have HCL := Lib.hid hcl
            have HT10 := Lib.hid ht10
            have HEND := Lib.hid (And.intro hend (And.intro hpl (And.intro hkc (And.intro hal (And.intro hsz c06)))))
            clear h6 c06 hG6 hx6 hp6 hnn hnone6 hpl hr9 hrd9 hkc hal hr8 he6 hr10 hx10 ht10 hr11 hm12 he12 hr12 hrd12 hcl hok hend hsz hb10 hb9 d3
            go_wp2_with (first | (refine wpList_store_mid rfl _ _ _ rfl G (i * 5) #[.int .i64 (n : Int), .slice (some ⟨g8, 0, none⟩) 512 512, .int .i64 1, .bool true, .bool false] (by simp [Act.eval, Act.put]) (by simp [Act.eval, Act.put]) HT10.out infoFr (by simp [Value.oneCell']) ?_; rw [hw11]))
            refine HCL.out.mono ?_
            rintro e w13 ⟨rfl, hw13⟩
            obtain ⟨hend, hpl, hkc, hal, hsz, c06⟩ := HEND.out
            have hb13 : Below w12.heap.size w12 w13 := by rw [← hw13]; exact (Below.refl _ _).alloc (Nat.le_refl _) _
            have hown : OwnB w13 w.heap.size 5 (.slice (some ⟨w12.heap.size, 0, none⟩) 512 512) (s2.dm.page n) := by
              have h9 := bobj_own w12 (s2.dm.page n) 512 w.heap.size hpl.symm (by rw [hpl]; unfold maxLen; omega) hsz
              rw [hpl, hw13] at h9
              exact h9
            have hpost : PinPost w D L Pb x s n (.returned (.tuple #[.slice (some ⟨w12.heap.size, 0, none⟩) 512 512, .int .i64 0])) w13 := by
              refine HFIN.out _ _ ?_
              rw [HPIN.out, if_neg (by simp), if_neg (by rw [hal]; simp), if_neg (by rw [hkc]; simp)]
              obtain ⟨x9, hx9, hz9, h9, c9⟩ := hend w13 hb13
              exact ⟨_, ⟨x9, hx9, hz9.trans hz6, h9, c06.trans c9⟩, .inr ⟨rfl, _, rfl, hown⟩⟩
            have HP := Lib.hid hpost
            clear hend hpl hkc hal hsz c06 hb13 hown hpost hw13
            go_wp2
            go_ret2
            exact HP.out
          · have hpost : PinPost w D L Pb x s n (.returned (.tuple #[.slice none 0 0, .int .i64 kc])) w10 := by
              refine HFIN.out _ _ ?_
              rw [HPIN.out, if_neg (by simp), if_neg (by rw [hal]; simp), if_pos (by rw [hkc]; exact hkc0), hkc]
              obtain ⟨x9, hx9, hz9, h9, c9⟩ := HNO.out
              exact ⟨_, ⟨x9, hx9, hz9.trans hz6, h9.below (((hb9.trans (hb10.mono hb9.size)))), c06.trans (c9.trans (Chg.of_below (hb9.trans (hb10.mono hb9.size)) _))⟩, .inl ⟨hkc0, rfl⟩⟩
            have HP := Lib.hid hpost
            clear h6 c06 hG6 hx6 hp6 hnn hnone6 hpl hr9 hrd9 hkc hal hr8 he6 hr10 hb10 hb9 hpost d3
            go_wp2
            go_ret2
            exact HP.out
      · have hpos : 0 ≤ pg := by omega
        obtain ⟨o, hdel, hmp6⟩ := imap_delete (P := Tryz.prog) (ty := 0) Tryz.underlying97 Tryz.underlying3 hr5.drew.mp pg 3
        obtain ⟨w7, hw7e⟩ : ∃ w7, setObjW w6.drew v6'.Mw o = w7 := ⟨_, rfl⟩
        obtain ⟨es6, hes6⟩ : ∃ es6, es6 = adel v6'.es pg := ⟨_, rfl⟩
        have hr6 : RawAt w6 w7 D L Pb (fun k => lfoot L bv6 sv6 k ∨ Z6 k) Fd6 s2.dm s2.pm.hand v6' v6'.fs es6 := by rw [← hw7e, hes6]; exact hr5.drew.obj o hmp6
        have he6 : ∀ m, alook es6 m = if m = f6.1.pg then none else alook v6'.es m := fun m => by
          rw [hes6, hp6]
          exact alook_adel _ h6.rep.mp.nodup pg m
        clear hneg
        have hG6' : v6'.G = G := hG6
        obtain ⟨w8, hw8⟩ : ∃ w8, w7.setCells G (i * 5) (#[.int .i64 (-1), .slice none 0 0, .int .i64 0, .bool false, .bool false] : Array Value).toList = w8 := ⟨_, rfl⟩
        have hr8 : RawAt w6 w8 D L Pb (fun k => lfoot L bv6 sv6 k ∨ Z6 k) Fd6 s2.dm s2.pm.hand v6' (v6'.fs.set i fv1) es6 := by rw [← hw8, ← hG6]; exact hr6.setF hx6 fv1 (RdB.nil _ _)
        have ht7 : w7.there G (i * 5) 5 := by rw [← hG6]; exact frame_there hr6.fbl hx6
        have c80 : w8.cell? ⟨Pb, 0, none⟩ = some (.pointer (some ⟨D, 0, none⟩)) := by rw [hr8.cell 0]; simp [pcells]
        have hnoF : PTo w6 D L Pb ⟨Fd6, v6', bv6, sv6, Z6⟩ { s2 with pm := { s2.pm with fr := s2.pm.fr.set i FM.none } } { v6' with fs := v6'.fs.set i fv1, es := es6 } w8 := by
          have h9 := hr8.toPL h6 (by simp) (h6.rep.mok.drop hx6 fv1 (by decide) es6 he6)
          rw [show ((v6'.fs.set i fv1).map (·.1)) = s2.pm.fr.set i FM.none by rw [List.map_set, h6.rep.frs]; rfl] at h9
          exact h9
        have HT7 := Lib.hid ht7
        have HNO := Lib.hid hnoF
        have HR8 := Lib.hid (And.intro hr8 he6)
        clear hr6 hr8 ht7 hnoF he6 hG6'
        clear h6 hr5 hes6 hmp6 hx6 hp6 hG6
        go_upto_region 17 with (fail)
        go_region
        try rw [hw7e]
        go_wp2_with (first | (refine wpList_store_mid rfl _ _ _ rfl G (i * 5) #[.int .i64 (-1), .slice none 0 0, .int .i64 0, .bool false, .bool false] (by simp [Act.eval, Act.put]) (by simp [Act.eval, Act.put]) HT7.out infoFr (by simp [Value.oneCell']) ?_; rw [hw8]))
        obtain ⟨h6, c06, hG6, hx6, hp6, hnn, hnone6⟩ := HY.out
        obtain ⟨hr8, he6⟩ := HR8.out
        by_cases hdd : s2.dm.dead = true
        · refine (d_read_dead w8 D _ _ hr8.disk hdd n).mono ?_
          rintro e w' ⟨rfl, rfl⟩
          have hpost : PinPost w D L Pb x s n (.returned (.tuple #[.slice none 0 0, .int .i64 9])) w8 := by
            refine HFIN.out _ _ ?_
            rw [HPIN.out, if_neg (by simp), if_pos hdd]
            obtain ⟨x9, hx9, hz9, h9, c9⟩ := HNO.out
            exact ⟨_, ⟨x9, hx9, hz9.trans hz6, h9, c06.trans c9⟩, .inl ⟨by simp, rfl⟩⟩
          have HP := Lib.hid hpost
          clear h6 c06 hG6 hx6 hp6 hnn hnone6 hr8 he6 hdd hpost c80 d3
          go_wp2
          go_ret2
          exact HP.out
        · have hal : s2.dm.dead = false := by cases hd : s2.dm.dead; rfl; exact absurd hd hdd
          have hread := d_read w8 D _ _ hr8.disk hal n hnn
          refine hread.mono ?_
          rintro e w9 ⟨rfl, hw9⟩
          have hpl : (s2.dm.page n).length = 512 := DM.page_length h6.disk.wf n hnn
          have hb9 : Below w8.heap.size w8 w9 := by rw [← hw9]; exact (Below.refl _ _).alloc (Nat.le_refl _) _
          have hr9 := hr8.below hb9
          have hnew : ¬ ((pfoot Pb v6' w8.heap.size ∨ (lfoot L bv6 sv6 w8.heap.size ∨ Z6 w8.heap.size)) ∨ Fd6 w8.heap.size) := by
            intro e
            rcases e with e | e
            · exact Nat.lt_irrefl _ (hr8.disk.E_lt _ e)
            · exact Nat.lt_irrefl _ (hr8.disk.foot_lt _ e)
          have hrd9 : RdB (fun k => (pfoot Pb v6' k ∨ (lfoot L bv6 sv6 k ∨ Z6 k)) ∨ Fd6 k) w9 (.slice (some ⟨w8.heap.size, 0, none⟩) 512 512) (s2.dm.page n) := by
            have h9 := bobj_rd (F := fun k => (pfoot Pb v6' k ∨ (lfoot L bv6 sv6 k ∨ Z6 k)) ∨ Fd6 k) w8 (s2.dm.page n) 512 hpl.symm (by rw [hpl]; unfold maxLen; omega) hnew
            rw [hpl, hw9] at h9
            exact h9
          have hck := check_any w9 _ _ hrd9
          obtain ⟨kc, hkc⟩ : ∃ kc, checkP (s2.dm.page n) = kc := ⟨_, rfl⟩
          rw [hkc] at hck
          obtain ⟨g8, hg8⟩ : ∃ g8, w8.heap.size = g8 := ⟨_, rfl⟩
          rw [hg8] at hrd9 hck ⊢
          have HCK := Lib.hid hck
          have HV := Lib.hid (And.intro hpl (And.intro hr9 (And.intro hrd9 (And.intro hkc (And.intro hal hb9)))))
          clear h6 c06 hG6 hx6 hp6 hnn hnone6 hr8 he6 hdd hal hread hpl hb9 hr9 hnew hrd9 hck hkc hw9 c80
          go_wp2_with fail
          refine HCK.out.mono ?_
          rintro e w10 ⟨rfl, hb10⟩
          obtain ⟨h6, c06, hG6, hx6, hp6, hnn, hnone6⟩ := HY.out
          obtain ⟨hpl, hr9, hrd9, hkc, hal, hb9⟩ := HV.out
          obtain ⟨hr8, he6⟩ := HR8.out
          have hr10 := hr9.below hb10
          by_cases hkc0 : kc = 0
          · subst hkc0
            have hx10 : (v6'.fs.set i fv1)[i]? = some fv1 := List.getElem?_set_self (List.getElem?_eq_some_iff.1 hx6).1
            have ht10 : w10.there G (i * 5) 5 := by rw [← hG6]; exact frame_there hr10.fbl hx10
            obtain ⟨w11, hw11⟩ : ∃ w11, w10.setCells G (i * 5) (#[.int .i64 (n : Int), .slice (some ⟨g8, 0, none⟩) 512 512, .int .i64 1, .bool true, .bool false] : Array Value).toList = w11 := ⟨_, rfl⟩
            have hr11 : RawAt w6 w11 D L Pb (fun k => lfoot L bv6 sv6 k ∨ Z6 k) Fd6 s2.dm s2.pm.hand v6' ((v6'.fs.set i fv1).set i (readF n (s2.dm.page n) g8)) es6 := by
              rw [← hw11, ← hG6]
              exact hr10.setF hx10 (readF n (s2.dm.page n) g8) (RdB.below hrd9 hb10)
            rw [List.set_set] at hr11
            have c113 : w11.cell? ⟨Pb, 3, none⟩ = some (.map (some v6'.Mw)) := by rw [hr11.cell 3]; simp [pcells]
            obtain ⟨o12, es12, hup, hm12, he12⟩ := imap_update (P := Tryz.prog) Tryz.underlying97 Tryz.underlying3 hr11.mp (n : Int) (.int .i64 (i : Int))
            obtain ⟨w12, hw12⟩ : ∃ w12, setObjW w11 v6'.Mw o12 = w12 := ⟨_, rfl⟩
            have hr12 := hr11.obj o12 hm12
            rw [hw12] at hup hr12
            have hrd12 : RdB (fun k => (pfoot Pb v6' k ∨ (lfoot L bv6 sv6 k ∨ Z6 k)) ∨ Fd6 k) w12 (.slice (some ⟨g8, 0, none⟩) 512 512) (s2.dm.page n) := hr12.rd (readF n (s2.dm.page n) g8) (List.mem_of_getElem? (List.getElem?_set_self (List.getElem?_eq_some_iff.1 hx6).1))
            have hcl := pclone w12 _ _ hrd12 (by rw [hpl]; omega)
            rw [hpl] at hcl
            have hok : MapOk (v6'.fs.set i (readF n (s2.dm.page n) g8)) es12 := h6.rep.mok.put hx6 n (by omega) hnone6 _ rfl es12 (fun m => by rw [he12]; split <;> simp_all)
            have hend : ∀ w13, Below w12.heap.size w12 w13 → PTo w6 D L Pb ⟨Fd6, v6', bv6, sv6, Z6⟩ { s2 with pm := { s2.pm with fr := s2.pm.fr.set i ⟨(n : Int), s2.dm.page n, 1, true, false⟩ } } { v6' with fs := v6'.fs.set i (readF n (s2.dm.page n) g8), es := es12 } w13 := fun w13 hb => by
              have h9 := (hr12.below hb).toPL h6 (by simp) hok
              rw [show ((v6'.fs.set i (readF n (s2.dm.page n) g8)).map (·.1)) = s2.pm.fr.set i ⟨(n : Int), s2.dm.page n, 1, true, false⟩ by rw [List.map_set, h6.rep.frs]; rfl] at h9
              exact h9
            have hsz : w.heap.size ≤ w12.heap.size := Nat.le_trans c06.size hr12.chg.size
            have HCL := Lib.hid hcl
            have HT10 := Lib.hid ht10
            have HEND := Lib.hid (And.intro hend (And.intro hpl (And.intro hkc (And.intro hal (And.intro hsz c06)))))
            clear h6 c06 hG6 hx6 hp6 hnn hnone6 hpl hr9 hrd9 hkc hal hr8 he6 hr10 hx10 ht10 hr11 hm12 he12 hr12 hrd12 hcl hok hend hsz hb10 hb9 d3
            go_wp2_with (first | (refine wpList_store_mid rfl _ _ _ rfl G (i * 5) #[.int .i64 (n : Int), .slice (some ⟨g8, 0, none⟩) 512 512, .int .i64 1, .bool true, .bool false] (by simp [Act.eval, Act.put]) (by simp [Act.eval, Act.put]) HT10.out infoFr (by simp [Value.oneCell']) ?_; rw [hw11]))
            refine HCL.out.mono ?_
            rintro e w13 ⟨rfl, hw13⟩
            obtain ⟨hend, hpl, hkc, hal, hsz, c06⟩ := HEND.out
            have hb13 : Below w12.heap.size w12 w13 := by rw [← hw13]; exact (Below.refl _ _).alloc (Nat.le_refl _) _
            have hown : OwnB w13 w.heap.size 5 (.slice (some ⟨w12.heap.size, 0, none⟩) 512 512) (s2.dm.page n) := by
              have h9 := bobj_own w12 (s2.dm.page n) 512 w.heap.size hpl.symm (by rw [hpl]; unfold maxLen; omega) hsz
              rw [hpl, hw13] at h9
              exact h9
            have hpost : PinPost w D L Pb x s n (.returned (.tuple #[.slice (some ⟨w12.heap.size, 0, none⟩) 512 512, .int .i64 0])) w13 := by
              refine HFIN.out _ _ ?_
              rw [HPIN.out, if_neg (by simp), if_neg (by rw [hal]; simp), if_neg (by rw [hkc]; simp)]
              obtain ⟨x9, hx9, hz9, h9, c9⟩ := hend w13 hb13
              exact ⟨_, ⟨x9, hx9, hz9.trans hz6, h9, c06.trans c9⟩, .inr ⟨rfl, _, rfl, hown⟩⟩
            have HP := Lib.hid hpost
            clear hend hpl hkc hal hsz c06 hb13 hown hpost hw13
            go_wp2
            go_ret2
            exact HP.out
          · have hpost : PinPost w D L Pb x s n (.returned (.tuple #[.slice none 0 0, .int .i64 kc])) w10 := by
              refine HFIN.out _ _ ?_
              rw [HPIN.out, if_neg (by simp), if_neg (by rw [hal]; simp), if_pos (by rw [hkc]; exact hkc0), hkc]
              obtain ⟨x9, hx9, hz9, h9, c9⟩ := HNO.out
              exact ⟨_, ⟨x9, hx9, hz9.trans hz6, h9.below (((hb9.trans (hb10.mono hb9.size)))), c06.trans (c9.trans (Chg.of_below (hb9.trans (hb10.mono hb9.size)) _))⟩, .inl ⟨hkc0, rfl⟩⟩
            have HP := Lib.hid hpost
            clear h6 c06 hG6 hx6 hp6 hnn hnone6 hpl hr9 hrd9 hkc hal hr8 he6 hr10 hb10 hb9 hpost d3
            go_wp2
            go_ret2
            exact HP.out
    · have hpost : PinPost w D L Pb x s n (.returned (.tuple #[.slice none 0 0, .int .i64 k])) w6 := by
        refine HFIN.out _ _ ?_
        rw [HPIN.out, if_pos hk0]
        exact ⟨v6', ⟨⟨Fd6, v6', bv6, sv6, Z6⟩, rfl, hz6, h6, c06⟩, .inl ⟨hk0, rfl⟩⟩
      have HP := Lib.hid hpost
      clear h hn hnone hx hes hGG hpge hbs c5 h6 c6 c06 hov hpost d2
      go_wp2
      go_ret2
      exact HP.out
end Mun
