/- Texts of mine, one behind the other: PoolG, PoolH. -/
import Derived.Test.YtjfepmohoijalaaGreatMgC
import Derived.Test.YtjfepmohoijalaaGreatP11
import Derived.Deep.MidRow
section
/- A pool over a device; a frame stored whole; Pin, where the page is held, or cannot be. -/
set_option maxRecDepth 100000
set_option linter.unusedVariables false
set_option linter.unusedSimpArgs false
namespace Mun
open Go Go.RowKit
open Go.Proofs

theorem infoFr : (Tryz.prog.info? 105).map (·.size) = some 5 := by kernel_rfl

/-- a frame stored whole -/
theorem setF_blk {w : World} {G : Nat} {fs : List FV} {ty : TypeId} {i : Nat} {x : FV} (hG : w.heap[G]? = some (.cells (fcells fs).toArray ty (0, 0))) (hx : fs[i]? = some x) (y : FV) :
    (w.setCells G (i * 5) (f5 y)).heap[G]? = some (.cells (fcells (fs.set i y)).toArray ty (0, 0)) ∧ (∀ k, k ≠ G → (w.setCells G (i * 5) (f5 y)).heap[k]? = w.heap[k]?) ∧ Chg (fun k => k = G) (fun k => k = G) w (w.setCells G (i * 5) (f5 y)) := by
  have hl := (List.getElem?_eq_some_iff.1 hx).1
  let y0 : FV := ({ x.1 with pg := y.1.pg }, x.2)
  let y1 : FV := (y0.1, y.2)
  let y2 : FV := ({ y1.1 with pins := y.1.pins }, y1.2)
  let y3 : FV := ({ y2.1 with touch := y.1.touch }, y2.2)
  have g : ∀ z : FV, (fs.set i z)[i]? = some z := fun z => by simp [hl]
  have a0 := fcells_set1 fs i 0 x y0 (.int .i64 y.1.pg) hx (by omega) rfl
  have a1 := fcells_set1 (fs.set i y0) i 1 y0 y1 y.2 (g _) (by omega) rfl
  have a2 := fcells_set1 (fs.set i y1) i 2 y1 y2 (.int .i64 (y.1.pins : Int)) (g _) (by omega) rfl
  have a3 := fcells_set1 (fs.set i y2) i 3 y2 y3 (.bool y.1.touch) (g _) (by omega) rfl
  have a4 := fcells_set1 (fs.set i y3) i 4 y3 y (.bool y.1.chg) (g _) (by omega) rfl
  rw [List.set_set] at a1 a2 a3 a4
  rw [Nat.add_zero] at a0
  rw [Nat.mul_comm] at a0 a1 a2 a3 a4
  have e : w.setCells G (i * 5) (f5 y) = ((((w.setCell ⟨G, i * 5, none⟩ (.int .i64 y.1.pg)).setCell ⟨G, i * 5 + 1, none⟩ y.2).setCell ⟨G, i * 5 + 2, none⟩ (.int .i64 (y.1.pins : Int))).setCell ⟨G, i * 5 + 3, none⟩ (.bool y.1.touch)).setCell ⟨G, i * 5 + 4, none⟩ (.bool y.1.chg) := rfl
  rw [e]
  refine ⟨?_, fun k hk => ?_, ?_⟩
  · have b0 := setCell_blk hG (i := i * 5) (.int .i64 y.1.pg)
    rw [a0] at b0
    have b1 := setCell_blk b0 (i := i * 5 + 1) y.2
    rw [a1] at b1
    have b2 := setCell_blk b1 (i := i * 5 + 2) (.int .i64 (y.1.pins : Int))
    rw [a2] at b2
    have b3 := setCell_blk b2 (i := i * 5 + 3) (.bool y.1.touch)
    rw [a3] at b3
    have b4 := setCell_blk b3 (i := i * 5 + 4) (.bool y.1.chg)
    rw [a4] at b4
    exact b4
  · rw [setCell_heap _ _ _ _ hk, setCell_heap _ _ _ _ hk, setCell_heap _ _ _ _ hk, setCell_heap _ _ _ _ hk, setCell_heap _ _ _ _ hk]
  · have c : ∀ (w : World) (j : Nat) (u : Value), Chg (fun k => k = G) (fun k => k = G) w (w.setCell ⟨G, j, none⟩ u) := fun w j u => chg_setCell w ⟨G, j, none⟩ u rfl
    exact (c w (i * 5) (.int .i64 y.1.pg)).trans <| (c _ (i * 5 + 1) y.2).trans <| (c _ (i * 5 + 2) (.int .i64 (y.1.pins : Int))).trans <| (c _ (i * 5 + 3) (.bool y.1.touch)).trans (c _ (i * 5 + 4) (.bool y.1.chg))

theorem frame_there {w : World} {G : Nat} {fs : List FV} {ty : TypeId} {i : Nat} {x : FV} (hG : w.heap[G]? = some (.cells (fcells fs).toArray ty (0, 0))) (hx : fs[i]? = some x) : w.there G (i * 5) 5 := fun j hj => by
  have h1 : w.cell? ⟨G, i * 5 + j, none⟩ = (f5 x)[j]? := by
    rw [cell_of_row w G _ _ _ _ hG, List.getElem?_toArray, Nat.mul_comm]
    exact fcells_get fs i j x hx hj
  refine ⟨?_, by simp [World.frozen?, hG]⟩
  rw [h1, List.getElem?_eq_getElem (by rw [f5_len]; exact hj)]
  rfl

/-- a pool over a device -/
structure PoolAt (w : World) (D L Pb : Nat) (Z Fd : Foot) (dm : DM) (p : PM) (v : PLV) : Prop where
  disk : DiskAt w D (fun k => pfoot Pb v k ∨ Z k) Fd dm
  rep : PRep w Pb D L (fun k => (pfoot Pb v k ∨ Z k) ∨ Fd k) p v
  alive : dm.dead = false

section
variable {w w' : World} {D L Pb : Nat} {Z Fd : Foot} {dm : DM} {p p' : PM} {v v' : PLV}

theorem PoolAt.foot (h : PoolAt w D L Pb Z Fd dm p v) (k : Nat) (hk : pfoot Pb v k) : (pfoot Pb v k ∨ Z k) ∨ Fd k := .inl (.inl hk)
theorem PoolAt.turn (h : PoolAt w D L Pb Z Fd dm p v) (hc : Chg (pfoot Pb v) (pfoot Pb v) w w') : DiskAt w' D (fun k => pfoot Pb v k ∨ Z k) Fd dm :=
  h.disk.chgE (hc.weak (fun k h1 => .inl h1) (fun k h1 => .inr (.inl h1)))
theorem PoolAt.below (h : PoolAt w D L Pb Z Fd dm p v) (hb : Below w.heap.size w w') : PoolAt w' D L Pb Z Fd dm p v := ⟨h.disk.below hb, h.rep.below hb, h.alive⟩

theorem pin_arg (h : PoolAt w D L Pb Z Fd dm p v) (n : Int) (hn : ¬ (0 ≤ n ∧ n < dm.base.length)) : Calls Tryz.prog 15 #[.pointer (some ⟨Pb, 0, none⟩), .int .i64 n] w fun e w' => e = .returned (.tuple #[.slice none 0 0, .int .i64 1]) ∧ w = w' := by
  have hpg := d_pages w D _ _ h.disk
  have c0 : w.cell? ⟨Pb, 0, none⟩ = some (.pointer (some ⟨D, 0, none⟩)) := by rw [h.rep.cell 0]; simp [pcells]
  obtain ⟨m, hm⟩ : ∃ m, dm.base.length = m := ⟨_, rfl⟩
  rw [hm] at hpg hn
  have HPG := Lib.hid hpg
  clear h hm hpg
  by_cases h0 : n < 0
  · clear hn
    go_enter Tryz.func15, Tryz.ntmps15
    go_wp2
    go_ret2
    exact ⟨rfl, rfl⟩
  · have h1 : 0 ≤ n := by omega
    have h2 : (m : Int) ≤ n := by omega
    clear hn h0
    go_enter Tryz.func15, Tryz.ntmps15
    go_wp2_with fail
    refine HPG.out.mono ?_
    rintro e w' ⟨rfl, rfl⟩
    go_wp2
    go_ret2
    exact ⟨rfl, rfl⟩

/-- one more pin -/
def pinned (x : FV) : FV := ({ x.1 with touch := true, pins := x.1.pins + 1 }, x.2)

def PinHeld (w : World) (Pb D L : Nat) (Z Fd : Foot) (dm : DM) (p : PM) (v : PLV) (i : Nat) (x : FV) (e : Ending) (w' : World) : Prop :=
  ∃ g, e = .returned (.tuple #[.slice (some ⟨g, 0, none⟩) x.1.b.length x.1.b.length, .int .i64 0]) ∧ OwnB w' w.heap.size 5 (.slice (some ⟨g, 0, none⟩) x.1.b.length x.1.b.length) x.1.b ∧
    PoolAt w' D L Pb Z Fd dm { p with fr := (v.fs.set i (pinned x)).map (·.1) } { v with fs := v.fs.set i (pinned x) } ∧ Chg (pfoot Pb v) (pfoot Pb v) w w'

theorem pin_held (h : PoolAt w D L Pb Z Fd dm p v) (n : Nat) (hn : n < dm.base.length) (i : Nat) (x : FV) (hx : v.fs[i]? = some x) (hp : x.1.pg = n) (hsm : x.1.pins < 16777216) (hlen : x.1.b.length ≤ 140737488355328) :
    Calls Tryz.prog 15 #[.pointer (some ⟨Pb, 0, none⟩), .int .i64 n] w (PinHeld w Pb D L Z Fd dm p v i x) := by
  have hpg := d_pages w D _ _ h.disk
  have c0 : w.cell? ⟨Pb, 0, none⟩ = some (.pointer (some ⟨D, 0, none⟩)) := by rw [h.rep.cell 0]; simp [pcells]
  have c3 : w.cell? ⟨Pb, 3, none⟩ = some (.map (some v.Mw)) := by rw [h.rep.cell 3]; simp [pcells]
  obtain ⟨ln, hln⟩ : ∃ ln, v.fs.length = ln := ⟨_, rfl⟩
  have c2 : w.cell? ⟨Pb, 2, none⟩ = some (.slice (some ⟨v.G, 0, none⟩) ln ln) := by rw [h.rep.cell 2]; simp [pcells, hln]
  have hlk := h.rep.ask n
  rw [← hp, h.rep.mok.here i x hx (by omega), hp] at hlk
  simp only [Option.getD_some, Option.isSome_some] at hlk
  obtain ⟨m, hm⟩ : ∃ m, dm.base.length = m := ⟨_, rfl⟩
  rw [hm] at hpg hn
  have q1 : (0 : Int) ≤ (n : Int) := by omega
  have q2 : (n : Int) < (m : Int) := by omega
  have q3 : (i : Int) < (ln : Int) := by have := (List.getElem?_eq_some_iff.1 hx).1; omega
  have q4 : (0 : Int) ≤ (i : Int) := by omega
  have hl := (List.getElem?_eq_some_iff.1 hx).1
  obtain ⟨k0, k1, k2, k3, k4⟩ := fc5 h.rep.fbl hx
  have z3 : w.frozen? ⟨v.G, i * 5 + 3, none⟩ = false := h.rep.ffree _
  let x1 : FV := ({ x.1 with touch := true }, x.2)
  obtain ⟨w1, hw1⟩ : ∃ w1, w.setCell ⟨v.G, i * 5 + 3, none⟩ (.bool true) = w1 := ⟨_, rfl⟩
  have hG1 : w1.heap[v.G]? = some (.cells (fcells (v.fs.set i x1)).toArray 105 (0, 0)) := by
    rw [← hw1]
    refine (setCell_blk h.rep.fbl _).trans ?_
    rw [Nat.mul_comm i 5, fcells_set1 v.fs i 3 x x1 (.bool true) hx (by omega) rfl]
  have hx1 : (v.fs.set i x1)[i]? = some x1 := by simp [hl]
  obtain ⟨k10, k11, k12, k13, k14⟩ := fc5 hG1 hx1
  have k12' : w1.cell? ⟨v.G, i * 5 + 2, none⟩ = some (.int .i64 (x.1.pins : Int)) := k12
  have z12 : w1.frozen? ⟨v.G, i * 5 + 2, none⟩ = false := by simp [World.frozen?, hG1]
  obtain ⟨w2, hw2⟩ : ∃ w2, w1.setCell ⟨v.G, i * 5 + 2, none⟩ (.int .i64 ((x.1.pins : Int) + 1)) = w2 := ⟨_, rfl⟩
  have hG2 : w2.heap[v.G]? = some (.cells (fcells (v.fs.set i (pinned x))).toArray 105 (0, 0)) := by
    rw [← hw2]
    refine (setCell_blk hG1 _).trans ?_
    rw [Nat.mul_comm i 5, fcells_set1 (v.fs.set i x1) i 2 x1 (pinned x) (.int .i64 ((x.1.pins : Int) + 1)) hx1 (by omega) rfl, List.set_set]
  have hx2 : (v.fs.set i (pinned x))[i]? = some (pinned x) := by simp [hl]
  obtain ⟨k20, k21, k22, k23, k24⟩ := fc5 hG2 hx2
  have k21' : w2.cell? ⟨v.G, i * 5 + 1, none⟩ = some x.2 := k21
  have ho2 : ∀ k, k ≠ v.G → w2.heap[k]? = w.heap[k]? := fun k hk => by rw [← hw2, setCell_heap _ _ _ _ hk, ← hw1, setCell_heap _ _ _ _ hk]
  have hg2 : Chg (pfoot Pb v) (pfoot Pb v) w w2 := by
    rw [← hw2, ← hw1]
    exact (chg_setCell _ _ _ (.inr (.inl rfl))).trans (chg_setCell _ _ _ (.inr (.inl rfl)))
  have hrd2 : RdB (fun k => (pfoot Pb v k ∨ Z k) ∨ Fd k) w2 x.2 x.1.b := RdV.keep (h.rep.rd x (List.mem_of_getElem? hx)) (fun k _ hk => ho2 k (fun e => hk (.inl (.inl (.inr (.inl e)))))) (fun _ _ h => h)
  have hrep2 := h.rep.setF h.foot hx (y := pinned x) rfl hrd2 ho2 hG2
  have hd2 := h.turn hg2
  have hcl := pclone w2 x.2 x.1.b hrd2 hlen
  have HF := Lib.hid (And.intro hrep2 (And.intro hd2 (And.intro hg2 (And.intro hlen h.alive))))
  have HPG := Lib.hid hpg
  have HCL := Lib.hid hcl
  obtain ⟨pn, hpn⟩ : ∃ pn, x.1.pins = pn := ⟨_, rfl⟩
  rw [hpn] at k2 k12' hw2 hsm
  have HW : Hid (wrap64 ((pn : Int) + 1) = (pn : Int) + 1) := by show _ = _; unfold wrap64; omega
  obtain ⟨xv, hxv⟩ : ∃ xv, x.2 = xv := ⟨_, rfl⟩
  rw [hxv] at k1 k21' HCL
  obtain ⟨sa, sn, sc, e2, -⟩ := hrd2.formN
  rw [hxv] at e2
  subst e2
  have q5 : (pn : Int) ≤ 16777215 := by omega
  clear h hx hp hln hm hpg hn hl k4 k0 k10 k11 k12 k13 k14 hG1 hx1 hG2 hx2 k20 k21 k22 k23 k24 ho2 hg2 hrd2 hrep2 hd2 hcl hlen hpn hsm hxv x1
  go_enter Tryz.func15, Tryz.ntmps15
  go_wp2_with fail
  refine HPG.out.mono ?_
  rintro e w' ⟨rfl, rfl⟩
  go_wp2_with fail
  refine HCL.out.mono ?_
  rintro e w' ⟨rfl, rfl⟩
  go_wp2
  go_ret2
  obtain ⟨hrep2, hd2, hg2, hlen, hal⟩ := HF.out
  have hb3 : Below w2.heap.size w2 (w2.alloc (bobj x.1.b)) := (Below.refl _ _).alloc (Nat.le_refl _) _
  exact ⟨w2.heap.size, rfl, bobj_own w2 x.1.b _ _ rfl (by unfold maxLen; omega) hg2.size, ⟨hd2.below hb3, hrep2.below hb3, hal⟩, hg2.trans (Chg.of_below hb3 _)⟩
end
end Mun
end

section
/- Pin, where the page is in no frame, and nothing is changed. -/
set_option maxRecDepth 100000
set_option linter.unusedVariables false
set_option linter.unusedSimpArgs false
namespace Mun
open Go Go.RowKit
open Go.Proofs

theorem IMap.nodup {w : World} {M : Nat} {es : List (Int × Value)} (h : IMap w M es) : (es.map (·.1)).Nodup := by
  obtain ⟨l, c, ⟨h1, -⟩, rfl⟩ := h
  rw [List.map_map]
  exact h1

theorem MapOk.put {fs : List FV} {es : List (Int × Value)} {i : Nat} {x : FV} (h : MapOk fs es) (hx : fs[i]? = some x) (n : Int) (h0 : 0 ≤ n) (hnone : alook es n = none) (y : FV) (hy : y.1.pg = n) (es' : List (Int × Value))
    (he : ∀ m, alook es' m = if m = n then some (.int .i64 (i : Int)) else if m = x.1.pg then none else alook es m) : MapOk (fs.set i y) es' := by
  have hl := (List.getElem?_eq_some_iff.1 hx).1
  refine ⟨fun j z hz hz0 => ?_, fun m u hu => ?_⟩
  · by_cases hij : i = j
    · subst hij
      rw [List.getElem?_set_self hl] at hz
      injection hz with hz
      subst hz
      rw [he, hy, if_pos rfl]
    · rw [List.getElem?_set_ne hij] at hz
      have h1 := h.here j z hz hz0
      have h2 : z.1.pg ≠ n := fun e => by rw [e, hnone] at h1; cases h1
      have h3 : z.1.pg ≠ x.1.pg := fun e => hij (h.one hx hz e.symm (e ▸ hz0))
      rw [he, if_neg h2, if_neg h3, h1]
  · rw [he] at hu
    by_cases hmn : m = n
    · rw [if_pos hmn] at hu
      injection hu with hu
      exact ⟨by omega, i, y, hu.symm, List.getElem?_set_self hl, by rw [hy, hmn]⟩
    · rw [if_neg hmn] at hu
      by_cases hmx : m = x.1.pg
      · rw [if_pos hmx] at hu; cases hu
      · rw [if_neg hmx] at hu
        obtain ⟨hm0, j, z, rfl, hz, hp⟩ := h.there m u hu
        refine ⟨hm0, j, z, rfl, ?_, hp⟩
        have hij : i ≠ j := fun e => by
          subst e
          rw [hx] at hz
          injection hz with hz
          subst hz
          exact hmx hp.symm
        rw [List.getElem?_set_ne hij]
        exact hz

theorem FoundIs.split {p : PM} {v : PLV} {r : Int} {p' : PM} {v' : PLV} (h : FoundIs p v r p' v') :
    (r = -1 ∧ p' = p ∧ v' = v ∧ (∀ x ∈ v.fs, 0 ≤ x.1.pg) ∧ ∀ x ∈ v.fs, 0 < x.1.pins) ∨
    (∃ (i : Nat) (x : FV), r = (i : Int) ∧ v'.fs[i]? = some x ∧ v' = { v with fs := v'.fs } ∧ SameFs v.fs v'.fs ∧ (x.1.pg < 0 ∨ x.1.pins = 0)) := by
  cases h with
  | free hx hn hall => exact .inr ⟨_, _, rfl, hx, rfl, SameFs.refl _, .inl hn⟩
  | full ha hp => exact .inl ⟨rfl, rfl, rfl, ha, hp⟩
  | clock ha hc =>
    obtain ⟨h1, -, x, hx, hp, -⟩ := hc.facts
    exact .inr ⟨_, x, rfl, hx, rfl, h1, .inr hp⟩

/-- a pool in the midst of Pin -/
structure RawAt (w0 w : World) (D L Pb : Nat) (Z Fd : Foot) (dm : DM) (hand : Nat) (v : PLV) (fs : List FV) (es : List (Int × Value)) : Prop where
  blk : w.heap[Pb]? = some (.cells (pcells D L { v with fs := fs } hand) 100 (0, 0))
  fbl : w.heap[v.G]? = some (.cells (fcells fs).toArray 105 (0, 0))
  rd : ∀ x ∈ fs, RdB (fun k => (pfoot Pb v k ∨ Z k) ∨ Fd k) w x.2 x.1.b
  mp : IMap w v.Mw es
  dt : IMap w v.Md v.ds
  disk : DiskAt w D (fun k => pfoot Pb v k ∨ Z k) Fd dm
  chg : Chg (pfoot Pb v) (pfoot Pb v) w0 w
  ne : v.Mw ≠ v.Md

section
variable {w0 w w' : World} {D L Pb : Nat} {Z Fd : Foot} {dm : DM} {hand : Nat} {v : PLV} {fs : List FV} {es : List (Int × Value)}

theorem RawAt.chg1 (h : RawAt w0 w D L Pb Z Fd dm hand v fs es) (hc : Chg (pfoot Pb v) (pfoot Pb v) w w') (x : FV) (hr : RdB (fun k => (pfoot Pb v k ∨ Z k) ∨ Fd k) w x.2 x.1.b) : RdB (fun k => (pfoot Pb v k ∨ Z k) ∨ Fd k) w' x.2 x.1.b :=
  RdV.keep hr (fun k hk hn => hc.block k hk (fun e => hn (.inl (.inl e)))) (fun _ _ h => h)
theorem RawAt.disk1 (h : RawAt w0 w D L Pb Z Fd dm hand v fs es) (hc : Chg (pfoot Pb v) (pfoot Pb v) w w') : DiskAt w' D (fun k => pfoot Pb v k ∨ Z k) Fd dm :=
  h.disk.chgE (hc.weak (fun k h1 => .inl h1) (fun k h1 => .inr (.inl h1)))
theorem RawAt.of {p : PM} (h : PRep w Pb D L (fun k => (pfoot Pb v k ∨ Z k) ∨ Fd k) p v) (hd : DiskAt w D (fun k => pfoot Pb v k ∨ Z k) Fd dm) (hc : Chg (pfoot Pb v) (pfoot Pb v) w0 w) : RawAt w0 w D L Pb Z Fd dm p.hand v v.fs v.es :=
  ⟨h.blk, h.fbl, h.rd, h.mp, h.dm, hd, hc, h.ne⟩
theorem RawAt.drew (h : RawAt w0 w D L Pb Z Fd dm hand v fs es) : RawAt w0 w.drew D L Pb Z Fd dm hand v fs es :=
  ⟨h.blk, h.fbl, h.rd, h.mp, h.dt, h.disk.keep (fun _ _ => rfl), h.chg.trans (chg_drew _), h.ne⟩
theorem RawAt.lt (h : RawAt w0 w D L Pb Z Fd dm hand v fs es) : Pb < w.heap.size ∧ v.G < w.heap.size ∧ v.Mw < w.heap.size ∧ v.Md < w.heap.size :=
  ⟨(Array.getElem?_eq_some_iff.1 h.blk).1, (Array.getElem?_eq_some_iff.1 h.fbl).1, h.mp.lt, h.dt.lt⟩
theorem RawAt.below (h : RawAt w0 w D L Pb Z Fd dm hand v fs es) (hb : Below w.heap.size w w') : RawAt w0 w' D L Pb Z Fd dm hand v fs es := by
  obtain ⟨l1, l2, l3, l4⟩ := h.lt
  have hc : Chg (pfoot Pb v) (pfoot Pb v) w w' := Chg.of_below hb _
  exact ⟨(hb.block _ l1).trans h.blk, (hb.block _ l2).trans h.fbl, fun x hx => h.chg1 hc x (h.rd x hx), h.mp.keep (hb.block _ l3), h.dt.keep (hb.block _ l4), h.disk.below hb, h.chg.trans hc, h.ne⟩
theorem RawAt.setF (h : RawAt w0 w D L Pb Z Fd dm hand v fs es) {i : Nat} {x : FV} (hx : fs[i]? = some x) (y : FV) (hr : RdB (fun k => (pfoot Pb v k ∨ Z k) ∨ Fd k) w y.2 y.1.b) :
    RawAt w0 (w.setCells v.G (i * 5) (f5 y)) D L Pb Z Fd dm hand v (fs.set i y) es := by
  obtain ⟨h1, h2, h3⟩ := setF_blk h.fbl hx y
  have hc : Chg (pfoot Pb v) (pfoot Pb v) w (w.setCells v.G (i * 5) (f5 y)) := h3.weak (fun k h1 => .inr (.inl h1)) (fun k h1 => .inr (.inl h1))
  refine ⟨?_, h1, fun z hz => ?_, h.mp.keep (h2 _ (Ne.symm (blk_ne_map h.fbl h.mp))), h.dt.keep (h2 _ (Ne.symm (blk_ne_map h.fbl h.dt))), h.disk1 hc, h.chg.trans hc, h.ne⟩
  · rw [h2 _ (blk_ne h.blk h.fbl (by decide))]
    refine h.blk.trans ?_
    simp [pcells]
  · rcases List.mem_or_eq_of_mem_set hz with h4 | h4
    · exact h.chg1 hc z (h.rd z h4)
    · subst h4; exact h.chg1 hc _ hr
theorem RawAt.obj (h : RawAt w0 w D L Pb Z Fd dm hand v fs es) (o : Obj) {es' : List (Int × Value)} (hm : IMap (setObjW w v.Mw o) v.Mw es') : RawAt w0 (setObjW w v.Mw o) D L Pb Z Fd dm hand v fs es' := by
  have hc : Chg (pfoot Pb v) (pfoot Pb v) w (setObjW w v.Mw o) := setObjW_chg w v.Mw o (.inr (.inr (.inl rfl)))
  exact ⟨(setObjW_other w _ _ o (blk_ne_map h.blk h.mp)).trans h.blk, (setObjW_other w _ _ o (blk_ne_map h.fbl h.mp)).trans h.fbl, fun x hx => h.chg1 hc x (h.rd x hx), hm, h.dt.keep (setObjW_other w _ _ o (Ne.symm h.ne)), h.disk1 hc, h.chg.trans hc, h.ne⟩
theorem RawAt.fin (h : RawAt w0 w D L Pb Z Fd dm hand v fs es) {w5 : World} {F : Foot} {p : PM} (h5 : PRep w5 Pb D L F p v) (hp : p.hand = hand) (hl : fs.length = v.fs.length) (hok : MapOk fs es) (hal : dm.dead = false) :
    PoolAt w D L Pb Z Fd dm { p with fr := fs.map (·.1) } { v with fs := fs, es := es } := by
  subst hp
  exact ⟨h.disk, ⟨h.blk, h.fbl, rfl, h.rd, h.mp, hok, h.dt, h5.dlk, h.ne, by show _ < fs.length; rw [hl]; exact h5.hand, by show fs.length ≤ _; rw [hl]; exact h5.big⟩, hal⟩
theorem RawAt.cell (h : RawAt w0 w D L Pb Z Fd dm hand v fs es) (i : Nat) : w.cell? ⟨Pb, i, none⟩ = (pcells D L { v with fs := fs } hand)[i]? := cell_of_row w Pb i _ _ _ h.blk
end

/-- the frame of a page that was read anew -/
def readF (n : Int) (b : Bytes) (g : Nat) : FV := (⟨n, b, 1, true, false⟩, .slice (some ⟨g, 0, none⟩) 512 512)

def PinMiss (w : World) (D L Pb : Nat) (Z Fd : Foot) (dm : DM) (p : PM) (v : PLV) (n : Nat) (e : Ending) (w' : World) : Prop :=
  (∃ p1 v1, FoundIs p v (-1) p1 v1 ∧ e = .returned (.tuple #[.slice none 0 0, .int .i64 7]) ∧ PoolAt w' D L Pb Z Fd dm p1 v1 ∧ Chg (pfoot Pb v) (pfoot Pb v) w w') ∨
  (∃ (i : Nat) (x : FV) (p1 : PM) (v1 : PLV) (g g0 : Nat) (es : List (Int × Value)), FoundIs p v (i : Int) p1 v1 ∧ v1.fs[i]? = some x ∧ e = .returned (.tuple #[.slice (some ⟨g, 0, none⟩) 512 512, .int .i64 0]) ∧
    OwnB w' w.heap.size 5 (.slice (some ⟨g, 0, none⟩) 512 512) (dm.page n) ∧
    PoolAt w' D L Pb Z Fd dm { p1 with fr := (v1.fs.set i (readF n (dm.page n) g0)).map (·.1) } { v1 with fs := v1.fs.set i (readF n (dm.page n) g0), es := es } ∧ Chg (pfoot Pb v) (pfoot Pb v) w w')

set_option maxHeartbeats 2000000 in
theorem pin_miss {w : World} {D L Pb : Nat} {Z Fd : Foot} {dm : DM} {p : PM} {v : PLV} (h : PoolAt w D L Pb Z Fd dm p v) (n : Nat) (hn : n < dm.base.length) (hnone : alook v.es n = none) (hclean : ∀ x ∈ v.fs, x.1.pg < 0 ∨ x.1.chg = false) (hchk : checkP (dm.page n) = 0) :
    Calls Tryz.prog 15 #[.pointer (some ⟨Pb, 0, none⟩), .int .i64 n] w (PinMiss w D L Pb Z Fd dm p v n) := by
  have hpg := d_pages w D _ _ h.disk
  have hfo := p_found w Pb D L _ p v h.rep h.foot
  have c0 : w.cell? ⟨Pb, 0, none⟩ = some (.pointer (some ⟨D, 0, none⟩)) := by rw [h.rep.cell 0]; simp [pcells]
  have c3 : w.cell? ⟨Pb, 3, none⟩ = some (.map (some v.Mw)) := by rw [h.rep.cell 3]; simp [pcells]
  have hlk := h.rep.ask n
  rw [hnone] at hlk
  simp only [Option.getD_none, Option.isSome_none] at hlk
  obtain ⟨m, hm⟩ : ∃ m, dm.base.length = m := ⟨_, rfl⟩
  rw [hm] at hpg
  have q1 : (0 : Int) ≤ (n : Int) := by omega
  have q2 : (n : Int) < (m : Int) := by omega
  have HX := Lib.hid (And.intro h (And.intro hn (And.intro hnone (And.intro hclean hchk))))
  have HPG := Lib.hid hpg
  have HFO := Lib.hid hfo
  clear h hn hnone hclean hchk hpg hfo hm
  go_enter Tryz.func15, Tryz.ntmps15
  go_wp2_with fail
  refine HPG.out.mono ?_
  rintro e w' ⟨rfl, rfl⟩
  go_wp2_with fail
  refine HFO.out.mono ?_
  rintro e w5 ⟨r, p1, v1, hfd, rfl, hrep5, hg5⟩
  obtain ⟨h, hn, hnone, hclean, hchk⟩ := HX.out
  have hd5 := h.turn hg5
  rcases hfd.split with ⟨rfl, rfl, rfl, ha, hpin⟩ | ⟨i, x, rfl, hx, hv1, hsame, hfree⟩
  · have HR := Lib.hid (And.intro hfd (And.intro hrep5 (And.intro hg5 (And.intro hd5 h.alive))))
    clear hfd hrep5 hg5 hd5 h hn hnone hclean hchk ha hpin hlk c3 c0
    go_wp2
    go_ret2
    obtain ⟨hfd, hrep5, hg5, hd5, hal⟩ := HR.out
    exact .inl ⟨_, _, hfd, rfl, ⟨hd5, hrep5, hal⟩, hg5⟩
  · have hG : v1.G = v.G := by rw [hv1]
    have hMw : v1.Mw = v.Mw := by rw [hv1]
    have hMd : v1.Md = v.Md := by rw [hv1]
    have hes : v1.es = v.es := by rw [hv1]
    have hft : pfoot Pb v1 = pfoot Pb v := by rw [hv1]; rfl
    have hq : x.1.pg < 0 ∨ x.1.chg = false := by
      have hil : i < v.fs.length := by rw [← hsame.1]; exact (List.getElem?_eq_some_iff.1 hx).1
      obtain ⟨y, hy, e1, e2, e3, e4, e5⟩ := hsame.2 i _ (List.getElem?_eq_getElem hil)
      rw [hx] at hy
      injection hy with hy
      rw [hy, e1, e4]
      exact hclean _ (List.getElem_mem hil)
    have hout := out_no w5 Pb D L _ p1 v1 hrep5 i x hx hq
    obtain ⟨ln, hln⟩ : ∃ ln, v1.fs.length = ln := ⟨_, rfl⟩
    have d2 : w5.cell? ⟨Pb, 2, none⟩ = some (.slice (some ⟨v1.G, 0, none⟩) ln ln) := by rw [hrep5.cell 2]; simp [pcells, hln]
    have d3 : w5.cell? ⟨Pb, 3, none⟩ = some (.map (some v1.Mw)) := by rw [hrep5.cell 3]; simp [pcells]
    obtain ⟨k0, k1, k2, k3, k4⟩ := fc5 hrep5.fbl hx
    have q3 : (i : Int) < (ln : Int) := by have := (List.getElem?_eq_some_iff.1 hx).1; omega
    have q4 : (0 : Int) ≤ (i : Int) := by omega
    obtain ⟨o, hdel, hmp6⟩ := imap_delete (P := Tryz.prog) (ty := 0) Tryz.underlying97 Tryz.underlying3 hrep5.mp x.1.pg 3
    obtain ⟨q, hqe⟩ : ∃ q, x.1.pg = q := ⟨_, rfl⟩
    rw [hqe] at k0 hdel hmp6
    have hg5' : Chg (pfoot Pb v1) (pfoot Pb v1) w w5 := by rw [hft]; exact hg5
    have hd5' : DiskAt w5 D (fun k => pfoot Pb v1 k ∨ Z k) Fd dm := by rw [hft]; exact hd5
    have hrep5' : PRep w5 Pb D L (fun k => (pfoot Pb v1 k ∨ Z k) ∨ Fd k) p1 v1 := by rw [hft]; exact hrep5
    have hr5 := RawAt.of hrep5' hd5' hg5'
    by_cases hneg : q < 0
    · obtain ⟨w6, hw6⟩ : ∃ w6, w6 = w5 := ⟨_, rfl⟩
      obtain ⟨es6, hes6⟩ : ∃ es6, es6 = v1.es := ⟨_, rfl⟩
      have hr6 : RawAt w w6 D L Pb Z Fd dm p1.hand v1 v1.fs es6 := by rw [hw6, hes6]; exact hr5
      have he6 : ∀ m, alook es6 m = if m = x.1.pg then none else alook v1.es m := fun m => by
        rw [hes6]
        by_cases hm : m = x.1.pg
        · rw [if_pos hm]
          cases hc : alook v1.es m with
          | none => rfl
          | some u =>
            have := (hrep5.mok.there m u hc).1
            omega
        · rw [if_neg hm]
      subst hw6
      obtain ⟨w7, hw7⟩ : ∃ w7, w6.setCells v1.G (i * 5) (#[.int .i64 (-1), .slice none 0 0, .int .i64 0, .bool false, .bool false] : Array Value).toList = w7 := ⟨_, rfl⟩
      have hr7 : RawAt w w7 D L Pb Z Fd dm p1.hand v1 (v1.fs.set i fv1) es6 := by rw [← hw7]; exact hr6.setF hx fv1 (RdB.nil _ _)
      have ht6 : w6.there v1.G (i * 5) 5 := frame_there hr6.fbl hx
      have c70 : w7.cell? ⟨Pb, 0, none⟩ = some (.pointer (some ⟨D, 0, none⟩)) := by rw [hr7.cell 0]; simp [pcells]
      have hread := d_read w7 D _ _ hr7.disk h.alive n hn
      obtain ⟨w8, hw8⟩ : ∃ w8, w7.alloc (bobj (dm.page n)) = w8 := ⟨_, rfl⟩
      rw [hw8] at hread
      have hpl : (dm.page n).length = 512 := DM.page_length h.disk.wf n hn
      have hb8 : Below w7.heap.size w7 w8 := by rw [← hw8]; exact (Below.refl _ _).alloc (Nat.le_refl _) _
      have hr8 := hr7.below hb8
      have hnew : ¬ ((pfoot Pb v1 w7.heap.size ∨ Z w7.heap.size) ∨ Fd w7.heap.size) := by
        intro e
        rcases e with e | e
        · exact Nat.lt_irrefl _ (hr7.disk.E_lt _ e)
        · exact Nat.lt_irrefl _ (hr7.disk.foot_lt _ e)
      have hrd8 : RdB (fun k => (pfoot Pb v1 k ∨ Z k) ∨ Fd k) w8 (.slice (some ⟨w7.heap.size, 0, none⟩) 512 512) (dm.page n) := by
        have h9 := bobj_rd (F := fun k => (pfoot Pb v1 k ∨ Z k) ∨ Fd k) w7 (dm.page n) 512 hpl.symm (by rw [hpl]; unfold maxLen; omega) hnew
        rw [hpl, hw8] at h9
        exact h9
      have hck := check_any w8 _ _ hrd8
      rw [hchk] at hck
      have HRD := Lib.hid hread
      have HCK := Lib.hid hck
      have HO := Lib.hid hout
      have HT6 := Lib.hid ht6
      have HZ := Lib.hid (And.intro hfd (And.intro hx (And.intro hrep5 (And.intro hr8 (And.intro hrd8 (And.intro he6 (And.intro hpl (And.intro hes (And.intro h.alive (And.intro hnone (And.intro h.disk.wf (hr7.chg))))))))))))
      have HG := Lib.hid (And.intro hG hft)
      clear hfd hx hv1 hsame hfree hG hMw hMd hes hft hq hout hln k1 k2 k3 k4 hdel hmp6 hqe hg5' hd5' hrep5' hr5 hrep5 hg5 hd5 h hn hnone hclean hchk hr6 he6 hes6 hr7 ht6 hread hpl hb8 hr8 hnew hrd8 hck HX HFO HPG hlk c0 c3
      go_wp2_with fail
      refine HO.out.mono ?_
      rintro e w' ⟨rfl, rfl⟩
      go_wp2_with (first | (refine wpList_store_mid rfl _ _ _ rfl v1.G (i * 5) #[.int .i64 (-1), .slice none 0 0, .int .i64 0, .bool false, .bool false] (by simp [Act.eval, Act.put]) (by simp [Act.eval, Act.put]) HT6.out infoFr (by simp [Value.oneCell']) ?_; rw [hw7]))
      refine HRD.out.mono ?_
      rintro e w' ⟨rfl, rfl⟩
      go_wp2_with fail
      refine HCK.out.mono ?_
      rintro e w9 ⟨rfl, hb9⟩
      obtain ⟨hfd, hx, hrep5, hr8, hrd8, he6, hpl, hes, hal, hnone, hwf, hchg7⟩ := HZ.out
      have hr9 := hr8.below hb9
      have hx9 : (v1.fs.set i fv1)[i]? = some fv1 := List.getElem?_set_self (List.getElem?_eq_some_iff.1 hx).1
      have ht9 : w9.there v1.G (i * 5) 5 := frame_there hr9.fbl hx9
      obtain ⟨w10, hw10⟩ : ∃ w10, w9.setCells v1.G (i * 5) (#[.int .i64 (n : Int), .slice (some ⟨w7.heap.size, 0, none⟩) 512 512, .int .i64 1, .bool true, .bool false] : Array Value).toList = w10 := ⟨_, rfl⟩
      have hr10 : RawAt w w10 D L Pb Z Fd dm p1.hand v1 ((v1.fs.set i fv1).set i (readF n (dm.page n) w7.heap.size)) es6 := by
        rw [← hw10]
        exact hr9.setF hx9 (readF n (dm.page n) w7.heap.size) (RdB.below hrd8 hb9)
      rw [List.set_set] at hr10
      have c103 : w10.cell? ⟨Pb, 3, none⟩ = some (.map (some v1.Mw)) := by rw [hr10.cell 3]; simp [pcells]
      obtain ⟨o11, es11, hup, hm11, he11⟩ := imap_update (P := Tryz.prog) Tryz.underlying97 Tryz.underlying3 hr10.mp (n : Int) (.int .i64 (i : Int))
      obtain ⟨w11, hw11⟩ : ∃ w11, setObjW w10 v1.Mw o11 = w11 := ⟨_, rfl⟩
      have hr11 := hr10.obj o11 hm11
      rw [hw11] at hup hr11
      have hrd11 : RdB (fun k => (pfoot Pb v1 k ∨ Z k) ∨ Fd k) w11 (.slice (some ⟨w7.heap.size, 0, none⟩) 512 512) (dm.page n) := hr11.rd (readF n (dm.page n) w7.heap.size) (List.mem_of_getElem? (List.getElem?_set_self (List.getElem?_eq_some_iff.1 hx).1))
      have hcl := pclone w11 _ _ hrd11 (by rw [hpl]; omega)
      rw [hpl] at hcl
      have hok : MapOk (v1.fs.set i (readF n (dm.page n) w7.heap.size)) es11 := hrep5.mok.put hx n (by omega) (by rw [hes]; exact hnone) _ rfl es11 (fun m => by rw [he11]; split <;> simp_all)
      have HCL := Lib.hid hcl
      have HT9 := Lib.hid ht9
      have HY := Lib.hid (And.intro hr11 hok)
      clear hfd hx hrep5 hr8 hrd8 he6 hpl hes hal hnone hwf hr9 hx9 ht9 hr10 hm11 he11 hr11 hrd11 hcl hok hb9 hchg7
      go_wp2_with (first | (refine wpList_store_mid rfl _ _ _ rfl v1.G (i * 5) #[.int .i64 (n : Int), .slice (some ⟨w7.heap.size, 0, none⟩) 512 512, .int .i64 1, .bool true, .bool false] (by simp [Act.eval, Act.put]) (by simp [Act.eval, Act.put]) HT9.out infoFr (by simp [Value.oneCell']) ?_; rw [hw10]))
      refine HCL.out.mono ?_
      rintro e w' ⟨rfl, rfl⟩
      go_wp2
      go_ret2
      obtain ⟨hfd, hx, hrep5, hr8, hrd8, he6, hpl, hes, hal, hnone, hwf, hchg7⟩ := HZ.out
      have hb12 : Below w11.heap.size w11 (w11.alloc (bobj (dm.page n))) := (Below.refl _ _).alloc (Nat.le_refl _) _
      have hr12 := HY.out.1.below hb12
      have hown : OwnB (w11.alloc (bobj (dm.page n))) w.heap.size 5 (.slice (some ⟨w11.heap.size, 0, none⟩) 512 512) (dm.page n) := by
        have h9 := bobj_own w11 (dm.page n) 512 w.heap.size hpl.symm (by rw [hpl]; unfold maxLen; omega) HY.out.1.chg.size
        rw [hpl] at h9
        exact h9
      exact .inr ⟨i, x, p1, v1, w11.heap.size, w7.heap.size, es11, hfd, hx, rfl, hown, hr12.fin hrep5 rfl (by simp) HY.out.2 hal, by rw [← HG.out.2]; exact hr12.chg⟩
    · have hpos : 0 ≤ q := by omega
      clear hdel hmp6 o
      obtain ⟨o, hdel, hmp6⟩ := imap_delete (P := Tryz.prog) (ty := 0) Tryz.underlying97 Tryz.underlying3 hr5.drew.mp q 3
      obtain ⟨w6, hw6⟩ : ∃ w6, setObjW w5.drew v1.Mw o = w6 := ⟨_, rfl⟩
      obtain ⟨es6, hes6⟩ : ∃ es6, es6 = adel v1.es q := ⟨_, rfl⟩
      have hr6 : RawAt w w6 D L Pb Z Fd dm p1.hand v1 v1.fs es6 := by rw [← hw6, hes6]; exact hr5.drew.obj o hmp6
      have he6 : ∀ m, alook es6 m = if m = x.1.pg then none else alook v1.es m := fun m => by
        rw [hes6, hqe]
        exact alook_adel _ hrep5.mp.nodup q m
      clear hneg
      obtain ⟨w7, hw7⟩ : ∃ w7, w6.setCells v1.G (i * 5) (#[.int .i64 (-1), .slice none 0 0, .int .i64 0, .bool false, .bool false] : Array Value).toList = w7 := ⟨_, rfl⟩
      have hr7 : RawAt w w7 D L Pb Z Fd dm p1.hand v1 (v1.fs.set i fv1) es6 := by rw [← hw7]; exact hr6.setF hx fv1 (RdB.nil _ _)
      have ht6 : w6.there v1.G (i * 5) 5 := frame_there hr6.fbl hx
      have c70 : w7.cell? ⟨Pb, 0, none⟩ = some (.pointer (some ⟨D, 0, none⟩)) := by rw [hr7.cell 0]; simp [pcells]
      have hread := d_read w7 D _ _ hr7.disk h.alive n hn
      obtain ⟨w8, hw8⟩ : ∃ w8, w7.alloc (bobj (dm.page n)) = w8 := ⟨_, rfl⟩
      rw [hw8] at hread
      have hpl : (dm.page n).length = 512 := DM.page_length h.disk.wf n hn
      have hb8 : Below w7.heap.size w7 w8 := by rw [← hw8]; exact (Below.refl _ _).alloc (Nat.le_refl _) _
      have hr8 := hr7.below hb8
      have hnew : ¬ ((pfoot Pb v1 w7.heap.size ∨ Z w7.heap.size) ∨ Fd w7.heap.size) := by
        intro e
        rcases e with e | e
        · exact Nat.lt_irrefl _ (hr7.disk.E_lt _ e)
        · exact Nat.lt_irrefl _ (hr7.disk.foot_lt _ e)
      have hrd8 : RdB (fun k => (pfoot Pb v1 k ∨ Z k) ∨ Fd k) w8 (.slice (some ⟨w7.heap.size, 0, none⟩) 512 512) (dm.page n) := by
        have h9 := bobj_rd (F := fun k => (pfoot Pb v1 k ∨ Z k) ∨ Fd k) w7 (dm.page n) 512 hpl.symm (by rw [hpl]; unfold maxLen; omega) hnew
        rw [hpl, hw8] at h9
        exact h9
      have hck := check_any w8 _ _ hrd8
      rw [hchk] at hck
      have HRD := Lib.hid hread
      have HCK := Lib.hid hck
      have HO := Lib.hid hout
      have HT6 := Lib.hid ht6
      have HZ := Lib.hid (And.intro hfd (And.intro hx (And.intro hrep5 (And.intro hr8 (And.intro hrd8 (And.intro he6 (And.intro hpl (And.intro hes (And.intro h.alive (And.intro hnone (And.intro h.disk.wf (hr7.chg))))))))))))
      have HG := Lib.hid (And.intro hG hft)
      clear hfd hx hv1 hsame hfree hG hMw hMd hes hft hq hout hln k1 k2 k3 k4 hmp6 hqe hg5' hd5' hrep5' hr5 hrep5 hg5 hd5 h hn hnone hclean hchk hr6 he6 hes6 hr7 ht6 hread hpl hb8 hr8 hnew hrd8 hck HX HFO HPG hlk c0 c3
      go_wp2_with fail
      refine HO.out.mono ?_
      rintro e w' ⟨rfl, rfl⟩
      go_upto_region 17 with (fail)
      go_region
      try rw [hw6]
      go_wp2_with (first | (refine wpList_store_mid rfl _ _ _ rfl v1.G (i * 5) #[.int .i64 (-1), .slice none 0 0, .int .i64 0, .bool false, .bool false] (by simp [Act.eval, Act.put]) (by simp [Act.eval, Act.put]) HT6.out infoFr (by simp [Value.oneCell']) ?_; rw [hw7]))
      refine HRD.out.mono ?_
      rintro e w' ⟨rfl, rfl⟩
      go_wp2_with fail
      refine HCK.out.mono ?_
      rintro e w9 ⟨rfl, hb9⟩
      obtain ⟨hfd, hx, hrep5, hr8, hrd8, he6, hpl, hes, hal, hnone, hwf, hchg7⟩ := HZ.out
      have hr9 := hr8.below hb9
      have hx9 : (v1.fs.set i fv1)[i]? = some fv1 := List.getElem?_set_self (List.getElem?_eq_some_iff.1 hx).1
      have ht9 : w9.there v1.G (i * 5) 5 := frame_there hr9.fbl hx9
      obtain ⟨w10, hw10⟩ : ∃ w10, w9.setCells v1.G (i * 5) (#[.int .i64 (n : Int), .slice (some ⟨w7.heap.size, 0, none⟩) 512 512, .int .i64 1, .bool true, .bool false] : Array Value).toList = w10 := ⟨_, rfl⟩
      have hr10 : RawAt w w10 D L Pb Z Fd dm p1.hand v1 ((v1.fs.set i fv1).set i (readF n (dm.page n) w7.heap.size)) es6 := by
        rw [← hw10]
        exact hr9.setF hx9 (readF n (dm.page n) w7.heap.size) (RdB.below hrd8 hb9)
      rw [List.set_set] at hr10
      have c103 : w10.cell? ⟨Pb, 3, none⟩ = some (.map (some v1.Mw)) := by rw [hr10.cell 3]; simp [pcells]
      obtain ⟨o11, es11, hup, hm11, he11⟩ := imap_update (P := Tryz.prog) Tryz.underlying97 Tryz.underlying3 hr10.mp (n : Int) (.int .i64 (i : Int))
      obtain ⟨w11, hw11⟩ : ∃ w11, setObjW w10 v1.Mw o11 = w11 := ⟨_, rfl⟩
      have hr11 := hr10.obj o11 hm11
      rw [hw11] at hup hr11
      have hrd11 : RdB (fun k => (pfoot Pb v1 k ∨ Z k) ∨ Fd k) w11 (.slice (some ⟨w7.heap.size, 0, none⟩) 512 512) (dm.page n) := hr11.rd (readF n (dm.page n) w7.heap.size) (List.mem_of_getElem? (List.getElem?_set_self (List.getElem?_eq_some_iff.1 hx).1))
      have hcl := pclone w11 _ _ hrd11 (by rw [hpl]; omega)
      rw [hpl] at hcl
      have hok : MapOk (v1.fs.set i (readF n (dm.page n) w7.heap.size)) es11 := hrep5.mok.put hx n (by omega) (by rw [hes]; exact hnone) _ rfl es11 (fun m => by rw [he11]; split <;> simp_all)
      have HCL := Lib.hid hcl
      have HT9 := Lib.hid ht9
      have HY := Lib.hid (And.intro hr11 hok)
      clear hfd hx hrep5 hr8 hrd8 he6 hpl hes hal hnone hwf hr9 hx9 ht9 hr10 hm11 he11 hr11 hrd11 hcl hok hb9 hchg7
      go_wp2_with (first | (refine wpList_store_mid rfl _ _ _ rfl v1.G (i * 5) #[.int .i64 (n : Int), .slice (some ⟨w7.heap.size, 0, none⟩) 512 512, .int .i64 1, .bool true, .bool false] (by simp [Act.eval, Act.put]) (by simp [Act.eval, Act.put]) HT9.out infoFr (by simp [Value.oneCell']) ?_; rw [hw10]))
      refine HCL.out.mono ?_
      rintro e w' ⟨rfl, rfl⟩
      go_wp2
      go_ret2
      obtain ⟨hfd, hx, hrep5, hr8, hrd8, he6, hpl, hes, hal, hnone, hwf, hchg7⟩ := HZ.out
      have hb12 : Below w11.heap.size w11 (w11.alloc (bobj (dm.page n))) := (Below.refl _ _).alloc (Nat.le_refl _) _
      have hr12 := HY.out.1.below hb12
      have hown : OwnB (w11.alloc (bobj (dm.page n))) w.heap.size 5 (.slice (some ⟨w11.heap.size, 0, none⟩) 512 512) (dm.page n) := by
        have h9 := bobj_own w11 (dm.page n) 512 w.heap.size hpl.symm (by rw [hpl]; unfold maxLen; omega) HY.out.1.chg.size
        rw [hpl] at h9
        exact h9
      exact .inr ⟨i, x, p1, v1, w11.heap.size, w7.heap.size, es11, hfd, hx, rfl, hown, hr12.fin hrep5 rfl (by simp) HY.out.2 hal, by rw [← HG.out.2]; exact hr12.chg⟩
end Mun
end
