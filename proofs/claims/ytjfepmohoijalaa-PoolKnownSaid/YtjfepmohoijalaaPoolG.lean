/- A pool over a device; a frame stored whole; Pin, where the page is held, or cannot be. -/
import Derived.Test.YtjfepmohoijalaaMgC
import Derived.Test.YtjfepmohoijalaaP11
import Derived.Deep.MidRow
set_option maxRecDepth 100000
set_option linter.unusedVariables false
set_option linter.unusedSimpArgs false
namespace Mun
open Go Go.RowKit
open Go.Proofs

theorem infoFr : (Try.prog.info? 58).map (·.size) = some 5 := by kernel_rfl

/-- a frame stored whole -/
theorem setF_blk {w : World} {G : Nat} {fs : List FV} {ty : TypeId} {i : Nat} {x : FV} (hG : w.heap[G]? = some (.cells (fcells fs).toArray ty (0, 0))) (hx : fs[i]? = some x) (y : FV) :
    (w.setCells G (i * 5) (f5 y)).heap[G]? = some (.cells (fcells (fs.set i y)).toArray ty (0, 0)) ∧ (∀ k, k ≠ G → (w.setCells G (i * 5) (f5 y)).heap[k]? = w.heap[k]?) ∧ Chg (fun k => k = G) (fun k => k = G) w (w.setCells G (i * 5) (f5 y)) := by
  have hl := (List.getElem?_eq_some_iff.1 hx).1
  let y0 : FV := ({ x.1 with pg := y.1.pg }, x.2)
  let y1 : FV := (y0.1, y.2)
  let y2 : FV := ({ y1.1 with pins := y.1.pins }, y1.2)
  let y3 : FV := ({ y2.1 with touch := y.1.touch }, y2.2)
  have g : ∀ z : FV, (fs.set i z)[i]? = some z := fun z => by simp [hl]
  have a0 := fcells_set1 fs i 0 x y0 (.int .i64 y.1.pg) hx (by omega) rfl
  have a1 := fcells_set1 (fs.set i y0) i 1 y0 y1 y.2 (g _) (by omega) rfl
  have a2 := fcells_set1 (fs.set i y1) i 2 y1 y2 (.int .i64 (y.1.pins : Int)) (g _) (by omega) rfl
  have a3 := fcells_set1 (fs.set i y2) i 3 y2 y3 (.bool y.1.touch) (g _) (by omega) rfl
  have a4 := fcells_set1 (fs.set i y3) i 4 y3 y (.bool y.1.chg) (g _) (by omega) rfl
  rw [List.set_set] at a1 a2 a3 a4
  rw [Nat.add_zero] at a0
  rw [Nat.mul_comm] at a0 a1 a2 a3 a4
  have e : w.setCells G (i * 5) (f5 y) = ((((w.setCell ⟨G, i * 5, none⟩ (.int .i64 y.1.pg)).setCell ⟨G, i * 5 + 1, none⟩ y.2).setCell ⟨G, i * 5 + 2, none⟩ (.int .i64 (y.1.pins : Int))).setCell ⟨G, i * 5 + 3, none⟩ (.bool y.1.touch)).setCell ⟨G, i * 5 + 4, none⟩ (.bool y.1.chg) := rfl
  rw [e]
  refine ⟨?_, fun k hk => ?_, ?_⟩
  · have b0 := setCell_blk hG (i := i * 5) (.int .i64 y.1.pg)
    rw [a0] at b0
    have b1 := setCell_blk b0 (i := i * 5 + 1) y.2
    rw [a1] at b1
    have b2 := setCell_blk b1 (i := i * 5 + 2) (.int .i64 (y.1.pins : Int))
    rw [a2] at b2
    have b3 := setCell_blk b2 (i := i * 5 + 3) (.bool y.1.touch)
    rw [a3] at b3
    have b4 := setCell_blk b3 (i := i * 5 + 4) (.bool y.1.chg)
    rw [a4] at b4
    exact b4
  · rw [setCell_heap _ _ _ _ hk, setCell_heap _ _ _ _ hk, setCell_heap _ _ _ _ hk, setCell_heap _ _ _ _ hk, setCell_heap _ _ _ _ hk]
  · have c : ∀ (w : World) (j : Nat) (u : Value), Chg (fun k => k = G) (fun k => k = G) w (w.setCell ⟨G, j, none⟩ u) := fun w j u => chg_setCell w ⟨G, j, none⟩ u rfl
    exact (c w (i * 5) (.int .i64 y.1.pg)).trans <| (c _ (i * 5 + 1) y.2).trans <| (c _ (i * 5 + 2) (.int .i64 (y.1.pins : Int))).trans <| (c _ (i * 5 + 3) (.bool y.1.touch)).trans (c _ (i * 5 + 4) (.bool y.1.chg))

theorem frame_there {w : World} {G : Nat} {fs : List FV} {ty : TypeId} {i : Nat} {x : FV} (hG : w.heap[G]? = some (.cells (fcells fs).toArray ty (0, 0))) (hx : fs[i]? = some x) : w.there G (i * 5) 5 := fun j hj => by
  have h1 : w.cell? ⟨G, i * 5 + j, none⟩ = (f5 x)[j]? := by
    rw [cell_of_row w G _ _ _ _ hG, List.getElem?_toArray, Nat.mul_comm]
    exact fcells_get fs i j x hx hj
  refine ⟨?_, by simp [World.frozen?, hG]⟩
  rw [h1, List.getElem?_eq_getElem (by rw [f5_len]; exact hj)]
  rfl

/-- a pool over a device -/
structure PoolAt (w : World) (D L Pb : Nat) (Z Fd : Foot) (dm : DM) (p : PM) (v : PLV) : Prop where
  disk : DiskAt w D (fun k => pfoot Pb v k ∨ Z k) Fd dm
  rep : PRep w Pb D L (fun k => (pfoot Pb v k ∨ Z k) ∨ Fd k) p v
  alive : dm.dead = false

section
variable {w w' : World} {D L Pb : Nat} {Z Fd : Foot} {dm : DM} {p p' : PM} {v v' : PLV}

theorem PoolAt.foot (h : PoolAt w D L Pb Z Fd dm p v) (k : Nat) (hk : pfoot Pb v k) : (pfoot Pb v k ∨ Z k) ∨ Fd k := .inl (.inl hk)
theorem PoolAt.turn (h : PoolAt w D L Pb Z Fd dm p v) (hc : Chg (pfoot Pb v) (pfoot Pb v) w w') : DiskAt w' D (fun k => pfoot Pb v k ∨ Z k) Fd dm :=
  h.disk.chgE (hc.weak (fun k h1 => .inl h1) (fun k h1 => .inr (.inl h1)))
theorem PoolAt.below (h : PoolAt w D L Pb Z Fd dm p v) (hb : Below w.heap.size w w') : PoolAt w' D L Pb Z Fd dm p v := ⟨h.disk.below hb, h.rep.below hb, h.alive⟩

theorem pin_arg (h : PoolAt w D L Pb Z Fd dm p v) (n : Int) (hn : ¬ (0 ≤ n ∧ n < dm.base.length)) : Calls Try.prog 7 #[.pointer (some ⟨Pb, 0, none⟩), .int .i64 n] w fun e w' => e = .returned (.tuple #[.slice none 0 0, .int .i64 1]) ∧ w = w' := by
  have hpg := d_pages w D _ _ h.disk
  have c0 : w.cell? ⟨Pb, 0, none⟩ = some (.pointer (some ⟨D, 0, none⟩)) := by rw [h.rep.cell 0]; simp [pcells]
  obtain ⟨m, hm⟩ : ∃ m, dm.base.length = m := ⟨_, rfl⟩
  rw [hm] at hpg hn
  have HPG := Lib.hid hpg
  clear h hm hpg
  by_cases h0 : n < 0
  · clear hn
    go_enter Try.func7, Try.ntmps7
    go_wp2
    go_ret2
    exact ⟨rfl, rfl⟩
  · have h1 : 0 ≤ n := by omega
    have h2 : (m : Int) ≤ n := by omega
    clear hn h0
    go_enter Try.func7, Try.ntmps7
    go_wp2_with fail
    refine HPG.out.mono ?_
    rintro e w' ⟨rfl, rfl⟩
    go_wp2
    go_ret2
    exact ⟨rfl, rfl⟩

/-- one more pin -/
def pinned (x : FV) : FV := ({ x.1 with touch := true, pins := x.1.pins + 1 }, x.2)

def PinHeld (w : World) (Pb D L : Nat) (Z Fd : Foot) (dm : DM) (p : PM) (v : PLV) (i : Nat) (x : FV) (e : Ending) (w' : World) : Prop :=
  ∃ g, e = .returned (.tuple #[.slice (some ⟨g, 0, none⟩) x.1.b.length x.1.b.length, .int .i64 0]) ∧ OwnB w' w.heap.size 5 (.slice (some ⟨g, 0, none⟩) x.1.b.length x.1.b.length) x.1.b ∧
    PoolAt w' D L Pb Z Fd dm { p with fr := (v.fs.set i (pinned x)).map (·.1) } { v with fs := v.fs.set i (pinned x) } ∧ Chg (pfoot Pb v) (pfoot Pb v) w w'

theorem pin_held (h : PoolAt w D L Pb Z Fd dm p v) (n : Nat) (hn : n < dm.base.length) (i : Nat) (x : FV) (hx : v.fs[i]? = some x) (hp : x.1.pg = n) (hsm : x.1.pins < 16777216) (hlen : x.1.b.length ≤ 140737488355328) :
    Calls Try.prog 7 #[.pointer (some ⟨Pb, 0, none⟩), .int .i64 n] w (PinHeld w Pb D L Z Fd dm p v i x) := by
  have hpg := d_pages w D _ _ h.disk
  have c0 : w.cell? ⟨Pb, 0, none⟩ = some (.pointer (some ⟨D, 0, none⟩)) := by rw [h.rep.cell 0]; simp [pcells]
  have c3 : w.cell? ⟨Pb, 3, none⟩ = some (.map (some v.Mw)) := by rw [h.rep.cell 3]; simp [pcells]
  obtain ⟨ln, hln⟩ : ∃ ln, v.fs.length = ln := ⟨_, rfl⟩
  have c2 : w.cell? ⟨Pb, 2, none⟩ = some (.slice (some ⟨v.G, 0, none⟩) ln ln) := by rw [h.rep.cell 2]; simp [pcells, hln]
  have hlk := h.rep.ask n
  rw [← hp, h.rep.mok.here i x hx (by omega), hp] at hlk
  simp only [Option.getD_some, Option.isSome_some] at hlk
  obtain ⟨m, hm⟩ : ∃ m, dm.base.length = m := ⟨_, rfl⟩
  rw [hm] at hpg hn
  have q1 : (0 : Int) ≤ (n : Int) := by omega
  have q2 : (n : Int) < (m : Int) := by omega
  have q3 : (i : Int) < (ln : Int) := by have := (List.getElem?_eq_some_iff.1 hx).1; omega
  have q4 : (0 : Int) ≤ (i : Int) := by omega
  have hl := (List.getElem?_eq_some_iff.1 hx).1
  obtain ⟨k0, k1, k2, k3, k4⟩ := fc5 h.rep.fbl hx
  have z3 : w.frozen? ⟨v.G, i * 5 + 3, none⟩ = false := h.rep.ffree _
  let x1 : FV := ({ x.1 with touch := true }, x.2)
  obtain ⟨w1, hw1⟩ : ∃ w1, w.setCell ⟨v.G, i * 5 + 3, none⟩ (.bool true) = w1 := ⟨_, rfl⟩
  have hG1 : w1.heap[v.G]? = some (.cells (fcells (v.fs.set i x1)).toArray 58 (0, 0)) := by
    rw [← hw1]
    refine (setCell_blk h.rep.fbl _).trans ?_
    rw [Nat.mul_comm i 5, fcells_set1 v.fs i 3 x x1 (.bool true) hx (by omega) rfl]
  have hx1 : (v.fs.set i x1)[i]? = some x1 := by simp [hl]
  obtain ⟨k10, k11, k12, k13, k14⟩ := fc5 hG1 hx1
  have k12' : w1.cell? ⟨v.G, i * 5 + 2, none⟩ = some (.int .i64 (x.1.pins : Int)) := k12
  have z12 : w1.frozen? ⟨v.G, i * 5 + 2, none⟩ = false := by simp [World.frozen?, hG1]
  obtain ⟨w2, hw2⟩ : ∃ w2, w1.setCell ⟨v.G, i * 5 + 2, none⟩ (.int .i64 ((x.1.pins : Int) + 1)) = w2 := ⟨_, rfl⟩
  have hG2 : w2.heap[v.G]? = some (.cells (fcells (v.fs.set i (pinned x))).toArray 58 (0, 0)) := by
    rw [← hw2]
    refine (setCell_blk hG1 _).trans ?_
    rw [Nat.mul_comm i 5, fcells_set1 (v.fs.set i x1) i 2 x1 (pinned x) (.int .i64 ((x.1.pins : Int) + 1)) hx1 (by omega) rfl, List.set_set]
  have hx2 : (v.fs.set i (pinned x))[i]? = some (pinned x) := by simp [hl]
  obtain ⟨k20, k21, k22, k23, k24⟩ := fc5 hG2 hx2
  have k21' : w2.cell? ⟨v.G, i * 5 + 1, none⟩ = some x.2 := k21
  have ho2 : ∀ k, k ≠ v.G → w2.heap[k]? = w.heap[k]? := fun k hk => by rw [← hw2, setCell_heap _ _ _ _ hk, ← hw1, setCell_heap _ _ _ _ hk]
  have hg2 : Chg (pfoot Pb v) (pfoot Pb v) w w2 := by
    rw [← hw2, ← hw1]
    exact (chg_setCell _ _ _ (.inr (.inl rfl))).trans (chg_setCell _ _ _ (.inr (.inl rfl)))
  have hrd2 : RdB (fun k => (pfoot Pb v k ∨ Z k) ∨ Fd k) w2 x.2 x.1.b := RdV.keep (h.rep.rd x (List.mem_of_getElem? hx)) (fun k _ hk => ho2 k (fun e => hk (.inl (.inl (.inr (.inl e)))))) (fun _ _ h => h)
  have hrep2 := h.rep.setF h.foot hx (y := pinned x) rfl hrd2 ho2 hG2
  have hd2 := h.turn hg2
  have hcl := pclone w2 x.2 x.1.b hrd2 hlen
  have HF := Lib.hid (And.intro hrep2 (And.intro hd2 (And.intro hg2 (And.intro hlen h.alive))))
  have HPG := Lib.hid hpg
  have HCL := Lib.hid hcl
  obtain ⟨pn, hpn⟩ : ∃ pn, x.1.pins = pn := ⟨_, rfl⟩
  rw [hpn] at k2 k12' hw2 hsm
  have HW : Hid (wrap64 ((pn : Int) + 1) = (pn : Int) + 1) := by show _ = _; unfold wrap64; omega
  obtain ⟨xv, hxv⟩ : ∃ xv, x.2 = xv := ⟨_, rfl⟩
  rw [hxv] at k1 k21' HCL
  obtain ⟨sa, sn, sc, e2, -⟩ := hrd2.formN
  rw [hxv] at e2
  subst e2
  have q5 : (pn : Int) ≤ 16777215 := by omega
  clear h hx hp hln hm hpg hn hl k4 k0 k10 k11 k12 k13 k14 hG1 hx1 hG2 hx2 k20 k21 k22 k23 k24 ho2 hg2 hrd2 hrep2 hd2 hcl hlen hpn hsm hxv x1
  go_enter Try.func7, Try.ntmps7
  go_wp2_with fail
  refine HPG.out.mono ?_
  rintro e w' ⟨rfl, rfl⟩
  go_wp2_with fail
  refine HCL.out.mono ?_
  rintro e w' ⟨rfl, rfl⟩
  go_wp2
  go_ret2
  obtain ⟨hrep2, hd2, hg2, hlen, hal⟩ := HF.out
  have hb3 : Below w2.heap.size w2 (w2.alloc (bobj x.1.b)) := (Below.refl _ _).alloc (Nat.le_refl _) _
  exact ⟨w2.heap.size, rfl, bobj_own w2 x.1.b _ _ rfl (by unfold maxLen; omega) hg2.size, ⟨hd2.below hb3, hrep2.below hb3, hal⟩, hg2.trans (Chg.of_below hb3 _)⟩
end
end Mun
