/- Texts of mine, one behind the other: PlD, PlE. -/
import Derived.Test.YtjfepmohoijalaaGreatPlC
import Derived.Test.YtjfepmohoijalaaGreatMgN
section
/- Pin of a page that is in a frame; Unpin; Put: over a log. -/
set_option maxRecDepth 100000
set_option linter.unusedVariables false
set_option linter.unusedSimpArgs false
namespace Mun
open Go Go.RowKit
open Go.Proofs

def PX.setF (s : PX) (i : Nat) (f : FM) : PX := { s with pm := { s.pm with fr := s.pm.fr.set i f } }
def FM.pin (f : FM) : FM := { f with touch := true, pins := f.pins + 1 }
def FM.unpin (f : FM) : FM := { f with pins := f.pins - 1 }

section
variable {w : World} {D L Pb : Nat} {s : PX} {x : PZ}

/-- one frame has turned -/
theorem PL.turnF (h : PL w D L Pb s x) {w' : World} {i : Nat} {f y : FV} (hx : x.v.fs[i]? = some f)
    (hp : PRep w' Pb D L (x.af Pb L) { s.pm with fr := (x.v.fs.set i y).map (·.1) } { x.v with fs := x.v.fs.set i y }) (hc : Chg (pfoot Pb x.v) (pfoot Pb x.v) w w') : PTo w D L Pb x (s.setF i y.1) { x.v with fs := x.v.fs.set i y } w' := by
  obtain ⟨h1, h2⟩ := h.pool1 (v' := { x.v with fs := x.v.fs.set i y }) rfl hp hc
  refine ⟨{ x with v := { x.v with fs := x.v.fs.set i y } }, rfl, rfl, ?_, h2⟩
  have e : s.pm.fr.set i y.1 = (x.v.fs.set i y).map (·.1) := by rw [List.map_set, h.rep.frs]
  unfold PX.setF
  rw [e]
  exact h1

theorem unpin_pl (h : PL w D L Pb s x) (n : Int) (i : Nat) (f : FV) (hx : x.v.fs[i]? = some f) (hp : f.1.pg = n) (h0 : 0 ≤ n) (hpin : 0 < f.1.pins) (hsm : f.1.pins < 4611686018427387904) :
    Calls Tryz.prog 23 #[.pointer (some ⟨Pb, 0, none⟩), .int .i64 n] w (PPost w D L Pb x (s.setF i f.1.unpin, 0) { x.v with fs := x.v.fs.set i (f.1.unpin, f.2) }) := by
  refine (unpin_yes w Pb D L _ s.pm x.v h.rep h.af_foot n i f hx hp h0 hpin hsm).mono ?_
  rintro e w' ⟨rfl, hr, hc⟩
  exact ⟨rfl, h.turnF (y := (f.1.unpin, f.2)) hx hr hc⟩

def PinHeldL (w : World) (D L Pb : Nat) (x : PZ) (s : PX) (i : Nat) (f : FV) (e : Ending) (w' : World) : Prop :=
  ∃ g, e = .returned (.tuple #[.slice (some ⟨g, 0, none⟩) f.1.b.length f.1.b.length, .int .i64 0]) ∧ OwnB w' w.heap.size 5 (.slice (some ⟨g, 0, none⟩) f.1.b.length f.1.b.length) f.1.b ∧
    PTo w D L Pb x (s.setF i f.1.pin) { x.v with fs := x.v.fs.set i (f.1.pin, f.2) } w'

theorem pin_held_pl (h : PL w D L Pb s x) (n : Nat) (hn : n < s.dm.base.length) (i : Nat) (f : FV) (hx : x.v.fs[i]? = some f) (hp : f.1.pg = n) (hsm : f.1.pins ≤ 8796093022199) (hlen : f.1.b.length ≤ 140737488355328) :
    Calls Tryz.prog 15 #[.pointer (some ⟨Pb, 0, none⟩), .int .i64 n] w (PinHeldL w D L Pb x s i f) := by
  have hpg := d_pages w D _ _ h.disk
  have c0 : w.cell? ⟨Pb, 0, none⟩ = some (.pointer (some ⟨D, 0, none⟩)) := by rw [h.rep.cell 0]; simp [pcells]
  have c3 : w.cell? ⟨Pb, 3, none⟩ = some (.map (some x.v.Mw)) := by rw [h.rep.cell 3]; simp [pcells]
  obtain ⟨ln, hln⟩ : ∃ ln, x.v.fs.length = ln := ⟨_, rfl⟩
  have c2 : w.cell? ⟨Pb, 2, none⟩ = some (.slice (some ⟨x.v.G, 0, none⟩) ln ln) := by rw [h.rep.cell 2]; simp [pcells, hln]
  have hlk := h.rep.ask n
  rw [← hp, h.rep.mok.here i f hx (by omega), hp] at hlk
  simp only [Option.getD_some, Option.isSome_some] at hlk
  obtain ⟨m, hm⟩ : ∃ m, s.dm.base.length = m := ⟨_, rfl⟩
  rw [hm] at hpg hn
  have q1 : (0 : Int) ≤ (n : Int) := by omega
  have q2 : (n : Int) < (m : Int) := by omega
  have q3 : (i : Int) < (ln : Int) := by have := (List.getElem?_eq_some_iff.1 hx).1; omega
  have q4 : (0 : Int) ≤ (i : Int) := by omega
  have hl := (List.getElem?_eq_some_iff.1 hx).1
  obtain ⟨k0, k1, k2, k3, k4⟩ := fc5 h.rep.fbl hx
  have z3 : w.frozen? ⟨x.v.G, i * 5 + 3, none⟩ = false := h.rep.ffree _
  obtain ⟨x1, hx1e⟩ : ∃ x1 : FV, x1 = ({ f.1 with touch := true }, f.2) := ⟨_, rfl⟩
  obtain ⟨x2, hx2e⟩ : ∃ x2 : FV, x2 = (f.1.pin, f.2) := ⟨_, rfl⟩
  obtain ⟨w1, hw1⟩ : ∃ w1, w.setCell ⟨x.v.G, i * 5 + 3, none⟩ (.bool true) = w1 := ⟨_, rfl⟩
  have hG1 : w1.heap[x.v.G]? = some (.cells (fcells (x.v.fs.set i x1)).toArray 105 (0, 0)) := by
    rw [← hw1]
    refine (setCell_blk h.rep.fbl _).trans ?_
    rw [Nat.mul_comm i 5, fcells_set1 x.v.fs i 3 f x1 (.bool true) hx (by omega) (by rw [hx1e]; rfl)]
  have hx1 : (x.v.fs.set i x1)[i]? = some x1 := by simp [hl]
  obtain ⟨k10, k11, k12, k13, k14⟩ := fc5 hG1 hx1
  have k12' : w1.cell? ⟨x.v.G, i * 5 + 2, none⟩ = some (.int .i64 (f.1.pins : Int)) := by rw [k12, hx1e]
  have z12 : w1.frozen? ⟨x.v.G, i * 5 + 2, none⟩ = false := by simp [World.frozen?, hG1]
  obtain ⟨w2, hw2⟩ : ∃ w2, w1.setCell ⟨x.v.G, i * 5 + 2, none⟩ (.int .i64 ((f.1.pins : Int) + 1)) = w2 := ⟨_, rfl⟩
  have hG2 : w2.heap[x.v.G]? = some (.cells (fcells (x.v.fs.set i x2)).toArray 105 (0, 0)) := by
    rw [← hw2]
    refine (setCell_blk hG1 _).trans ?_
    rw [Nat.mul_comm i 5, fcells_set1 (x.v.fs.set i x1) i 2 x1 x2 (.int .i64 ((f.1.pins : Int) + 1)) hx1 (by omega) (by rw [hx1e, hx2e]; rfl), List.set_set]
  have hx2 : (x.v.fs.set i x2)[i]? = some x2 := by simp [hl]
  obtain ⟨k20, k21, k22, k23, k24⟩ := fc5 hG2 hx2
  have k21' : w2.cell? ⟨x.v.G, i * 5 + 1, none⟩ = some f.2 := by rw [k21, hx2e]
  have ho2 : ∀ k, k ≠ x.v.G → w2.heap[k]? = w.heap[k]? := fun k hk => by rw [← hw2, setCell_heap _ _ _ _ hk, ← hw1, setCell_heap _ _ _ _ hk]
  have hg2 : Chg (pfoot Pb x.v) (pfoot Pb x.v) w w2 := by
    rw [← hw2, ← hw1]
    exact (chg_setCell _ _ _ (.inr (.inl rfl))).trans (chg_setCell _ _ _ (.inr (.inl rfl)))
  have hrd2 : RdB (x.af Pb L) w2 f.2 f.1.b := RdV.keep (h.rep.rd f (List.mem_of_getElem? hx)) (fun k _ hk => ho2 k (fun e => hk (.inl (.inl (.inr (.inl e)))))) (fun _ _ h => h)
  have hrep2 := h.rep.setF h.af_foot hx (y := x2) (by rw [hx2e]; rfl) (by rw [hx2e]; exact hrd2) ho2 hG2
  have hto := h.turnF (y := x2) hx hrep2 hg2
  rw [hx2e] at hto
  have hcl := pclone w2 f.2 f.1.b hrd2 hlen
  have HF := Lib.hid (And.intro hto (And.intro hg2 hlen))
  have HPG := Lib.hid hpg
  have HCL := Lib.hid hcl
  obtain ⟨pn, hpn⟩ : ∃ pn, f.1.pins = pn := ⟨_, rfl⟩
  rw [hpn] at k2 k12' hw2 hsm
  have HW : Hid (wrap64 ((pn : Int) + 1) = (pn : Int) + 1) := by show _ = _; unfold wrap64; omega
  obtain ⟨xv, hxv⟩ : ∃ xv, f.2 = xv := ⟨_, rfl⟩
  rw [hxv] at k1 k21' HCL
  obtain ⟨sa, sn, sc, e2, -⟩ := hrd2.formN
  rw [hxv] at e2
  subst e2
  have q5 : (pn : Int) ≤ 8796093022199 := by omega
  clear h hx hp hln hm hpg hn hl k4 k0 k10 k11 k12 k13 k14 hG1 hx1 hG2 hx2 k20 k21 k22 k23 k24 ho2 hg2 hrd2 hrep2 hto hcl hlen hpn hsm hxv hx1e hx2e
  go_enter Tryz.func15, Tryz.ntmps15
  go_wp2_with fail
  refine HPG.out.mono ?_
  rintro e w' ⟨rfl, rfl⟩
  go_wp2_with fail
  refine HCL.out.mono ?_
  rintro e w' ⟨rfl, rfl⟩
  go_wp2
  go_ret2
  obtain ⟨⟨x', hx', hz', h', c'⟩, hg2, hlen⟩ := HF.out
  have hb3 : Below w2.heap.size w2 (w2.alloc (bobj f.1.b)) := (Below.refl _ _).alloc (Nat.le_refl _) _
  exact ⟨w2.heap.size, rfl, bobj_own w2 f.1.b _ _ rfl (by unfold maxLen; omega) hg2.size, x', hx', hz', h'.below hb3, c'.trans (Chg.of_below hb3 _)⟩

theorem put_bad (h : PL w D L Pb s x) (n : Int) (i : Nat) (f : FV) (hx : x.v.fs[i]? = some f) (hp : f.1.pg = n) (h0 : 0 ≤ n) (hpin : 0 < f.1.pins) {F : Foot} (bv : Value) (b : Bytes) (hb : RdB F w bv b) (hg : ¬ GoodP b) (lsn : Nat) :
    Calls Tryz.prog 21 #[.pointer (some ⟨Pb, 0, none⟩), .int .i64 n, bv, .int .u64 (lsn : Int)] w (PPost w D L Pb x (s, 4) x.v) := by
  have hh := held_yes w Pb D L _ s.pm x.v h.rep n i f hx hp h0 hpin
  have hs := seal_no w bv b lsn hb hg
  obtain ⟨sa, sn, sc, rfl, -⟩ := hb.formN
  have HH := Lib.hid hh
  have HS := Lib.hid hs
  have HX := Lib.hid h
  clear h hx hp h0 hpin hb hg hh hs
  go_enter Tryz.func21, Tryz.ntmps21
  go_wp2_with fail
  refine HH.out.mono ?_
  rintro e w' ⟨rfl, rfl⟩
  go_wp2_with fail
  refine HS.out.mono ?_
  rintro e w2 ⟨rfl, hb2⟩
  have HB := Lib.hid hb2
  clear hb2
  go_wp2
  go_ret
  exact ⟨rfl, PTo.of_below HX.out HB.out⟩

theorem info_dirt : (Tryz.prog.info? 111).map (·.size) = some 2 := by kernel_rfl

/-- a page changed -/
def PX.put (s : PX) (i : Nat) (f : FM) (b : Bytes) (lsn : Nat) : PX :=
  { s with pm := { s.pm with fr := s.pm.fr.set i { f with b := sealP b lsn, chg := true }, dt := dset s.pm.dt f.pg (((dlook s.pm.dt f.pg).map (·.1)).getD lsn, true) } }

set_option maxHeartbeats 2000000 in
theorem put_yes (h : PL w D L Pb s x) (n : Int) (i : Nat) (f : FV) (hx : x.v.fs[i]? = some f) (hp : f.1.pg = n) (h0 : 0 ≤ n) (hpin : 0 < f.1.pins) {F : Foot} (bv : Value) (b : Bytes) (hb : RdB F w bv b) (hg : GoodP b) (lsn : Nat) :
    Calls Tryz.prog 21 #[.pointer (some ⟨Pb, 0, none⟩), .int .i64 n, bv, .int .u64 (lsn : Int)] w fun e w' => e = .returned (.int .i64 0) ∧ ∃ v', PTo w D L Pb x (s.put i f.1 b lsn) v' w' := by
  have hh := held_yes w Pb D L _ s.pm x.v h.rep n i f hx hp h0 hpin
  have hs := seal_yes w bv b lsn hb hg
  obtain ⟨sa, sn, sc, rfl, -⟩ := hb.formN
  have HH := Lib.hid hh
  have HS := Lib.hid hs
  have HX := Lib.hid (And.intro h (And.intro hx (And.intro hp h0)))
  obtain ⟨G, hG⟩ : ∃ G, x.v.G = G := ⟨_, rfl⟩
  rw [hG] at HH
  clear h hx hp h0 hpin hb hg hh hs
  go_enter Tryz.func21, Tryz.ntmps21
  go_wp2_with fail
  refine HH.out.mono ?_
  rintro e w' ⟨rfl, rfl⟩
  go_wp2_with fail
  refine HS.out.mono ?_
  rintro e w2 ⟨g, rfl, hpa, hgn, hb2⟩
  obtain ⟨h, hx, hp, h0⟩ := HX.out
  have h2 := h.below hb2
  rw [show ((lsn : Nat) : Int) = (lsn : Int) from rfl]
  have hgaf : ¬ x.af Pb L g := fun e => by have := h.lt g e; omega
  have hrg : RdB (x.af Pb L) w2 (.slice (some ⟨g, 0, none⟩) 512 512) (sealP b lsn) := hpa.rd hgaf
  obtain ⟨y, hy⟩ : ∃ y : FV, y = ({ f.1 with b := sealP b lsn, chg := true }, .slice (some ⟨g, 0, none⟩) 512 512) := ⟨_, rfl⟩
  obtain ⟨y1, hy1⟩ : ∃ y1 : FV, y1 = ({ f.1 with b := sealP b lsn }, .slice (some ⟨g, 0, none⟩) 512 512) := ⟨_, rfl⟩
  have hl := (List.getElem?_eq_some_iff.1 hx).1
  obtain ⟨k0, k1, k2, k3, k4⟩ := fc5 h2.rep.fbl hx
  obtain ⟨fv, hfv⟩ : ∃ fv, f.2 = fv := ⟨_, rfl⟩
  obtain ⟨ta, tn, tc, e2, -⟩ := (h2.rep.rd f (List.mem_of_getElem? hx)).formN
  obtain ⟨fc, hfc⟩ : ∃ fc, f.1.chg = fc := ⟨_, rfl⟩
  rw [hG, e2] at k1
  rw [hG, hfc] at k4
  have z1 : w2.frozen? ⟨G, i * 5 + 1, none⟩ = false := by rw [← hG]; exact h2.rep.ffree _
  obtain ⟨w3, hw3⟩ : ∃ w3, w2.setCell ⟨G, i * 5 + 1, none⟩ (.slice (some ⟨g, 0, none⟩) 512 512) = w3 := ⟨_, rfl⟩
  have hG3 : w3.heap[G]? = some (.cells (fcells (x.v.fs.set i y1)).toArray 105 (0, 0)) := by
    rw [← hw3, ← hG]
    refine (setCell_blk h2.rep.fbl _).trans ?_
    rw [Nat.mul_comm i 5, fcells_set1 x.v.fs i 1 f y1 _ hx (by omega) (by rw [hy1]; rfl)]
  have hx3 : (x.v.fs.set i y1)[i]? = some y1 := by simp [hl]
  obtain ⟨k30, k31, k32, k33, k34⟩ := fc5 hG3 hx3
  have k34' : w3.cell? ⟨G, i * 5 + 4, none⟩ = some (.bool fc) := by rw [k34, hy1, ← hfc]
  have z34 : w3.frozen? ⟨G, i * 5 + 4, none⟩ = false := by simp [World.frozen?, hG3]
  obtain ⟨w4, hw4⟩ : ∃ w4, w3.setCell ⟨G, i * 5 + 4, none⟩ (.bool true) = w4 := ⟨_, rfl⟩
  have hG4 : w4.heap[x.v.G]? = some (.cells (fcells (x.v.fs.set i y)).toArray 105 (0, 0)) := by
    rw [← hw4, hG]
    refine (setCell_blk hG3 _).trans ?_
    rw [Nat.mul_comm i 5, fcells_set1 (x.v.fs.set i y1) i 4 y1 y (.bool true) hx3 (by omega) (by rw [hy1, hy]; rfl), List.set_set]
  have ho4 : ∀ k, k ≠ x.v.G → w4.heap[k]? = w2.heap[k]? := fun k hk => by rw [← hw4, setCell_heap _ _ _ _ (by rw [← hG]; exact hk), ← hw3, setCell_heap _ _ _ _ (by rw [← hG]; exact hk)]
  have hg4 : Chg (pfoot Pb x.v) (pfoot Pb x.v) w2 w4 := by
    rw [← hw4, ← hw3, ← hG]
    exact (chg_setCell _ _ _ (.inr (.inl rfl))).trans (chg_setCell _ _ _ (.inr (.inl rfl)))
  have hrep4 := h2.rep.setF h2.af_foot hx (y := y) (by rw [hy]) (by rw [hy]; exact RdV.keep hrg (fun k _ hk => ho4 k (fun e => hk (h2.af_foot k (.inr (.inl e))))) (fun _ _ h => h)) ho4 hG4
  obtain ⟨Md, hMd⟩ : ∃ Md, x.v.Md = Md := ⟨_, rfl⟩
  have d4 : w4.cell? ⟨Pb, 4, none⟩ = some (.map (some Md)) := by rw [← hMd, hrep4.cell 4]; simp [pcells]
  have hdm : IMap w4 Md x.v.ds := by rw [← hMd]; exact hrep4.dm
  have hlk := imap_lookup (P := Tryz.prog) Tryz.underlying98 Tryz.underlying3 (zero_dirt w4) hdm n
  obtain ⟨is, his⟩ : ∃ is, (alook x.v.ds n).isSome = is := ⟨_, rfl⟩
  obtain ⟨rc, cc, hcc, hri⟩ : ∃ (rc : Nat) (cc : Bool), (alook x.v.ds n).getD (.agg #[.int .u64 0, .bool false]) = .agg #[.int .u64 (rc : Int), .bool cc] ∧ ((dlook s.pm.dt f.1.pg).map (·.1)).getD lsn = if is then rc else lsn := by
    rw [← his, hp, h2.rep.dlk n]
    cases dlook s.pm.dt n with
    | none => exact ⟨0, false, rfl, rfl⟩
    | some q => exact ⟨q.1, q.2, rfl, rfl⟩
  rw [hcc, his] at hlk
  obtain ⟨B, hB⟩ : ∃ B, w4.heap.size = B := ⟨_, rfl⟩
  obtain ⟨w5, hw5⟩ : ∃ w5, w4.alloc (.cells #[.int .u64 0, .bool false] 111) = w5 := ⟨_, rfl⟩
  have kb5 : w5.heap[B]? = some (.cells #[.int .u64 0, .bool false] 111 (0, 0)) := by rw [← hw5, ← hB]; exact heap_alloc_new w4 _
  obtain ⟨w6, hw6⟩ : ∃ w6, w5.setRow B #[.int .u64 (rc : Int), .bool cc] = w6 := ⟨_, rfl⟩
  have kb6 : w6.heap[B]? = some (.cells #[.int .u64 (rc : Int), .bool cc] 111 (0, 0)) := by rw [← hw6]; exact setRow_heap _ _ _ _ _ _ kb5
  have hb6 : Below w4.heap.size w4 w6 := by rw [← hw6, ← hw5]; exact below_setRow ((Below.refl _ _).alloc (Nat.le_refl _) _) (Nat.le_of_eq hB) _
  have hmid : ∀ (w7 : World) (R : Nat), w7.heap[B]? = some (.cells #[.int .u64 (R : Int), .bool true] 111 (0, 0)) → Below w4.heap.size w4 w7 → (if is then rc else lsn) = R →
      w7.drew.cell? ⟨Pb, 4, none⟩ = some (.map (some Md)) ∧ w7.drew.cell? ⟨B, 0, none⟩ = some (.int .u64 (R : Int)) ∧ w7.drew.cell? ⟨B, 1, none⟩ = some (.bool true) ∧
      ∃ w8, (Instr.mapUpdate 98 (.map (some Md)) (.int .i64 n) (.agg #[.int .u64 (R : Int), .bool true])).run Tryz.prog w7.drew = .ok () w8 ∧ Hid (∃ v', PTo w D L Pb x (s.put i f.1 b lsn) v' w8) := by
    intro w7 R hk7 hb7 hR
    have hrep7 := hrep4.below hb7
    have hdm7 : IMap w7.drew Md x.v.ds := by rw [← hMd]; exact hrep7.dm.keep rfl
    obtain ⟨o8, ds8, hup, hm8, he8⟩ := imap_update (P := Tryz.prog) Tryz.underlying98 Tryz.underlying3 hdm7 n (.agg #[.int .u64 (R : Int), .bool true])
    refine ⟨by rw [← hMd]; show w7.cell? ⟨Pb, 4, none⟩ = _; rw [hrep7.cell 4]; simp [pcells], cell_of_row w7 B 0 _ _ _ hk7, cell_of_row w7 B 1 _ _ _ hk7, _, hup, ?_⟩
    have ho8 : ∀ k, k ≠ x.v.Md → (setObjW w7.drew Md o8).heap[k]? = w7.heap[k]? := fun k hk => by rw [setObjW_other _ _ _ _ (by rw [← hMd]; exact hk)]; rfl
    have hrep8 := hrep7.dirt (w' := setObjW w7.drew Md o8) (ds := ds8) (dt := dset s.pm.dt n (R, true)) h2.af_foot ho8 (by show IMap _ x.v.Md ds8; rw [hMd]; exact hm8) (fun m => by
      rw [he8, dlook_dset]
      by_cases hn : m = n
      · rw [if_pos hn, if_pos hn]; rfl
      · rw [if_neg hn, if_neg hn]; exact h2.rep.dlk m)
    have hg8 : Chg (pfoot Pb x.v) (pfoot Pb x.v) w2 (setObjW w7.drew Md o8) :=
      (hg4.trans ((Chg.of_below hb7 _).trans (chg_drew _))).trans (setObjW_chg _ _ _ (by rw [← hMd]; exact .inr (.inr (.inr rfl))))
    obtain ⟨hfin, hcf⟩ := h2.pool1 (v' := { x.v with fs := x.v.fs.set i y, ds := ds8 }) rfl hrep8 hg8
    refine Lib.hid ⟨{ x.v with fs := x.v.fs.set i y, ds := ds8 }, { x with v := { x.v with fs := x.v.fs.set i y, ds := ds8 } }, rfl, rfl, ?_, (Chg.of_below hb2 _).trans hcf⟩
    have e9 : s.put i f.1 b lsn = { s with pm := { { s.pm with fr := (x.v.fs.set i y).map (fun z : FV => z.1) } with dt := dset s.pm.dt n (R, true) } } := by
      have e1 : (x.v.fs.set i y).map (fun z : FV => z.1) = s.pm.fr.set i { f.1 with b := sealP b lsn, chg := true } := by rw [List.map_set, h.rep.frs, hy]
      unfold PX.put
      rw [e1, ← hR, ← hri, ← hp]
    rw [e9]
    exact hfin
  have HM := Lib.hid hmid
  have q60 : w6.cell? ⟨B, 0, none⟩ = some (.int .u64 (rc : Int)) := cell_of_row w6 B 0 _ _ _ kb6
  have q61 : w6.cell? ⟨B, 1, none⟩ = some (.bool cc) := cell_of_row w6 B 1 _ _ _ kb6
  have zf6 : ∀ j, w6.frozen? ⟨B, j, none⟩ = false := fun j => by simp [World.frozen?, kb6]
  have z60 := zf6 0
  have z61 := zf6 1
  have KB5 := Lib.hid kb5
  have HB6 := Lib.hid (And.intro hb6 (And.intro hB kb6))
  clear h hx hp h0 hpa hgn hb2 h2 hgaf hrg hy hy1 hl k0 k2 k3 hfv hfc e2 hG3 hx3 k30 k31 k32 k33 k34 hG4 ho4 hg4 hrep4 hMd hdm his hcc hri kb5 hb6 HH HS hG kb6 hmid zf6
  cases is with
  | true =>
    obtain ⟨w7, hw7⟩ : ∃ w7, w6.setCell ⟨B, 1, none⟩ (.bool true) = w7 := ⟨_, rfl⟩
    obtain ⟨m1, m2, m3, w8, hup, hend⟩ := HM.out w7 rc (by rw [← hw7]; exact setCell_blk HB6.out.2.2 _) (by rw [← hw7]; exact HB6.out.1.setCell (Nat.le_of_eq HB6.out.2.1) _) rfl
    go_wp2_with (first | (refine wpList_store_row rfl _ _ _ rfl B _ rfl rfl _ _ KB5.out info_dirt rfl (by simp [Value.oneCell']) ?_; rw [hw6]) | rw [hw3] | rw [hw4] | rw [hB] | rw [hw5])
    go_upto_region 12 with (first | rw [hw7])
    go_region
    go_wp2
    go_ret
    exact ⟨rfl, hend.out⟩
  | false =>
    obtain ⟨w6b, hw6b⟩ : ∃ w6b, w6.setCell ⟨B, 0, none⟩ (.int .u64 (lsn : Int)) = w6b := ⟨_, rfl⟩
    have kb6b : w6b.heap[B]? = some (.cells #[.int .u64 (lsn : Int), .bool cc] 111 (0, 0)) := by rw [← hw6b]; exact setCell_blk HB6.out.2.2 _
    have q61b : w6b.cell? ⟨B, 1, none⟩ = some (.bool cc) := cell_of_row w6b B 1 _ _ _ kb6b
    have z61b : w6b.frozen? ⟨B, 1, none⟩ = false := by simp [World.frozen?, kb6b]
    obtain ⟨w7, hw7⟩ : ∃ w7, w6b.setCell ⟨B, 1, none⟩ (.bool true) = w7 := ⟨_, rfl⟩
    obtain ⟨m1, m2, m3, w8, hup, hend⟩ := HM.out w7 lsn (by rw [← hw7]; exact setCell_blk kb6b _) (by rw [← hw7, ← hw6b]; exact (HB6.out.1.setCell (Nat.le_of_eq HB6.out.2.1) _).setCell (Nat.le_of_eq HB6.out.2.1) _) rfl
    clear kb6b
    go_wp2_with (first | (refine wpList_store_row rfl _ _ _ rfl B _ rfl rfl _ _ KB5.out info_dirt rfl (by simp [Value.oneCell']) ?_; rw [hw6]) | rw [hw3] | rw [hw4] | rw [hB] | rw [hw5])
    go_upto_region 12 with (first | rw [hw6b] | rw [hw7])
    go_region
    go_wp2
    go_ret
    exact ⟨rfl, hend.out⟩
end
end Mun
end

section
/- Write of a page, over a log. -/
set_option maxRecDepth 100000
set_option linter.unusedVariables false
set_option linter.unusedSimpArgs false
namespace Mun
open Go Go.RowKit
open Go.Proofs

section
variable {w : World} {D L Pb : Nat} {s : PX} {x : PZ}

theorem write_no (h : PL w D L Pb s x) (n : Int) (hn : alook x.v.es n = none) :
    Calls Tryz.prog 24 #[.pointer (some ⟨Pb, 0, none⟩), .int .i64 n] w fun e w' => e = .returned (.int .i64 18) ∧ w = w' := by
  have c3 : w.cell? ⟨Pb, 3, none⟩ = some (.map (some x.v.Mw)) := by rw [h.rep.cell 3]; simp [pcells]
  have hlk := h.rep.ask n
  rw [hn] at hlk
  simp only [Option.getD_none, Option.isSome_none] at hlk
  clear h hn
  go_enter Tryz.func24, Tryz.ntmps24
  go_wp2
  go_ret
  exact ⟨rfl, rfl⟩

theorem write_yes (h : PL w D L Pb s x) (ho : s.dm.ops < 4398046511103) (n : Int) (h0 : 0 ≤ n) (i : Nat) (f : FV) (hx : x.v.fs[i]? = some f) (hp : f.1.pg = n) (hg : f.1.chg = true → GoodP f.1.b) :
    Calls Tryz.prog 24 #[.pointer (some ⟨Pb, 0, none⟩), .int .i64 n] w (OutPost w D L Pb x (s.out i) i f) := by
  have c3 : w.cell? ⟨Pb, 3, none⟩ = some (.map (some x.v.Mw)) := by rw [h.rep.cell 3]; simp [pcells]
  obtain ⟨ln, hln⟩ : ∃ ln, x.v.fs.length = ln := ⟨_, rfl⟩
  have c2 : w.cell? ⟨Pb, 2, none⟩ = some (.slice (some ⟨x.v.G, 0, none⟩) ln ln) := by rw [h.rep.cell 2]; simp [pcells, hln]
  have hlk := h.rep.ask n
  rw [← hp, h.rep.mok.here i f hx (by omega), hp] at hlk
  simp only [Option.getD_some, Option.isSome_some] at hlk
  have q3 : (i : Int) < (ln : Int) := by have := (List.getElem?_eq_some_iff.1 hx).1; omega
  have q4 : (0 : Int) ≤ (i : Int) := by omega
  have hout := out_pl h ho i f hx hg
  obtain ⟨r, hr⟩ : ∃ r, s.out i = r := ⟨_, rfl⟩
  rw [hr] at hout ⊢
  have HO := Lib.hid hout
  clear h ho hx hp hg hout hln h0 hr
  go_enter Tryz.func24, Tryz.ntmps24
  go_wp2_with fail
  refine HO.out.mono ?_
  rintro e w' ⟨v', hov, rfl, hto⟩
  obtain ⟨k, hk⟩ : ∃ k, r.2 = k := ⟨_, rfl⟩
  have hpost : OutPost w D L Pb x r i f (.returned (.int .i64 k)) w' := ⟨v', hov, by rw [hk], hto⟩
  have HT := Lib.hid hpost
  rw [hk]
  clear hov hto hk hpost
  go_wp2
  go_ret
  exact HT.out
end
end Mun
end
