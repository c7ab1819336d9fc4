/- Contracts of what writes into a page of the call's own: setSlot, below, anew. -/
import Derived.Test.YtndeebchiodimaaP3
import Derived.Lib.SliceRun
set_option maxRecDepth 100000
set_option linter.unusedVariables false
set_option linter.unusedSimpArgs false
namespace Mun
open Go Go.RowKit
open Go.Proofs

/-- b.b[lo:] of a page -/
theorem slice_from (g lo : Nat) (L : Int) (hL : L = lo) (h : lo ≤ 512) :
    ∃ a, (∀ W, (Instr.sliceAt 22 (.slice (some ⟨g, 0, none⟩) 512 512) (some (.int .i64 L)) none none).run Try.prog W = .ok (.slice a (512 - lo) (512 - lo)) W) ∧ (lo < 512 → a = some ⟨g, lo, none⟩) := by
  subst hL
  refine ⟨if 512 = lo then some ⟨g, 0, none⟩ else some ⟨g, lo, none⟩, fun W => ?_, fun hlt => by rw [if_neg (by omega)]⟩
  obtain ⟨i, hi', hz, hs1, hs2⟩ := info_of info_u8
  have he : Try.prog.elem 22 = 5 := by kernel_rfl
  have ht : Try.prog.underlying 22 = some (.slice (Try.prog.elem 22)) := by rw [he]; exact Try.underlying22
  rw [run_sliceAt_slice _ _ _ _ _ _ ht, run_slice_l _ _ _ _ _ ht _ _ (by omega) (by omega), he]
  simp [Go.sizeOf, typeInfo, hi', hs1, sliced, addr_add]

theorem zero_u8 (w : World) : (zeroValue 5).run Try.prog w = .ok (.int .u8 0) w := by
  obtain ⟨i, hi', hz, hs1, hs2⟩ := info_of info_u8
  simp [zeroValue, typeInfo, hi', hz]

theorem bv_zer (n : Nat) : bv (zer n) = List.replicate n (.int .u8 0) := by simp [bv, zer]

/-- clear of a part of a page -/
theorem clear_mid {ty : TypeId} (W : World) (g A n c : Nat) (p : List UInt8) (hg : PgAt W g p) (hn : 0 < n) (hA : A + n ≤ 512) :
    ∃ W', (Builtin.clear_ #[22] ty #[.slice (some ⟨g, A, none⟩) n c]).run Try.prog W = .ok (.tuple #[]) W' ∧ PgAt W' g (putAt p A (zer n)) ∧ Chg (G1 g) (G1 g) W W' := by
  have hpl : (putAt p A (zer n)).length = 512 := by rw [putAt_length _ _ _ (by rw [hg.2]; simpa [zer] using hA)]; exact hg.2
  have hzc : (Builtin.zeroCells (Value.int .u8 0).cells n).toList = bv (zer n) := by
    rw [bv_zer]
    simp only [Builtin.zeroCells, Value.cells]
    apply List.ext_getElem
    · simp
    · intro i h1 h2
      simp [Nat.mod_one]
  have hst := run_storeCells_at Try.prog g A 5 (bv (zer n)) 0 (bv p).toArray W hg.1 (by simp [bv, zer]; rw [hg.2]; exact hA) (bv_oneCell _)
  simp only [Nat.add_zero] at hst
  refine ⟨W.setRow g (List.take A (bv p).toArray.toList ++ bv (zer n) ++ List.drop (A + (bv (zer n)).length) (bv p).toArray.toList).toArray, ?_, ⟨?_, hpl⟩, ⟨rfl, rfl, rfl, by simp, fun k _ hk => setRow_other _ _ _ _ (fun e => hk e), fun k hk => .inl hk⟩⟩
  · obtain ⟨m, rfl⟩ : ∃ m, n = m + 1 := ⟨n - 1, by omega⟩
    simp [Builtin.clear_, run_underlying Try.underlying22, zero_u8, hzc, hst]
  · have := setRow_heap W g (bv p).toArray (List.take A (bv p).toArray.toList ++ bv (zer n) ++ List.drop (A + (bv (zer n)).length) (bv p).toArray.toList).toArray 5 (0, 0) hg.1
    rw [this]
    simp [bobj, bv, putAt, List.map_take, List.map_drop]

/-- a page of the call's own, and the sheet that holds it in a cell -/
structure Bx (w0 w : World) (b g : Nat) (p : List UInt8) : Prop where
  pg : PgAt w g p
  box : w.cell? ⟨b, 0, none⟩ = some (.slice (some ⟨g, 0, none⟩) 512 512)
  ne : b ≠ g
  chg : Chg (G1 g) (G1 g) w0 w
theorem Bx.start {w : World} {g : Nat} {p : List UInt8} (hg : PgAt w g p) : Bx w (w.alloc (.cells #[.slice (some ⟨g, 0, none⟩) 512 512] 65)) w.heap.size g p :=
  ⟨hg.below ((Below.refl _ _).alloc (Nat.le_refl _) _), cell_of_row _ w.heap.size 0 _ _ _ (heap_alloc_new w _), by have := hg.lt; omega, Chg.of_below ((Below.refl _ _).alloc (Nat.le_refl _) _) _⟩
theorem Bx.step {w0 w w' : World} {b g : Nat} {p p' : List UInt8} (h : Bx w0 w b g p) (hp : PgAt w' g p') (hc : Chg (G1 g) (G1 g) w w') : Bx w0 w' b g p' :=
  ⟨hp, box_chg h.box hc h.ne, h.ne, h.chg.trans hc⟩
theorem Bx.below {w0 w w' : World} {b g : Nat} {p : List UInt8} (h : Bx w0 w b g p) (hb : Below w.heap.size w w') : Bx w0 w' b g p := h.step (h.pg.below hb) (Chg.of_below hb _)
theorem Bx.drew {w0 w : World} {b g : Nat} {p : List UInt8} (h : Bx w0 w b g p) (n : Nat) : Bx w0 (w.drewN n) b g p := h.below (below_drewN (Below.refl _ _) n)
theorem Bx.rd {w0 w : World} {b g : Nat} {p : List UInt8} (h : Bx w0 w b g p) {F : Foot} (hF : ¬ F g) : RdB F w (PV g) p := h.pg.rd hF

set_option maxHeartbeats 800000 in
theorem setSlot_any (w : World) (g : Nat) (p : List UInt8) (I Fr Z : Int) (i f z : Nat) (hI : I = i) (hF : Fr = f) (hZ : Z = z) (hg : PgAt w g p) (hi : 26 + 4 * i + 4 ≤ 512) (hf : f ≤ 1000000) (hz : z ≤ 1000000) :
    Calls Try.prog 56 #[.agg #[PV g], .int .i64 I, .int .i64 Fr, .int .i64 Z] w fun e w' => e = .returned (.tuple #[]) ∧ PgAt w' g (ss p i f z) ∧ Chg (G1 g) (G1 g) w w' := by
  subst hI
  subst hF
  subst hZ
  have hb := Bx.start hg
  obtain ⟨w1, hw1⟩ : ∃ w1, w.alloc (.cells #[.slice (some ⟨g, 0, none⟩) 512 512] 65) = w1 := ⟨_, rfl⟩
  rw [hw1] at hb
  have hx1 := hb.box
  have HB := Lib.hid hb
  have hii : (i : Int) ≤ 121 := by omega
  have hfi : (f : Int) ≤ 1000000 := by omega
  have hzi : (z : Int) ≤ 1000000 := by omega
  have HI := Lib.hid hi
  clear hg hb hi hf hz
  go_enter Try.func56, Try.ntmps56
  go_wp2_with fail
  refine (put_any _ g p _ 2 (26 + 4 * i) 2 f (by push_cast; rfl) rfl HB.out.pg (by have := HI.out; omega) (by decide) (by decide)).mono ?_
  rintro e w2 ⟨rfl, hp2, hc2⟩
  have hb2 := HB.out.step hp2 hc2
  have hx2 := hb2.box
  have HB2 := Lib.hid hb2
  clear hp2 hc2 hb2 hx1
  go_wp2_with fail
  refine (put_any _ g _ _ 2 (26 + 4 * i + 2) 2 z (by push_cast; rfl) rfl HB2.out.pg (by have := HI.out; omega) (by decide) (by decide)).mono ?_
  rintro e w3 ⟨rfl, hp3, hc3⟩
  have HB3 := Lib.hid (HB2.out.step hp3 hc3)
  clear hp3 hc3 hx2
  go_wp2
  go_end0
  exact ⟨rfl, HB3.out.pg, HB3.out.chg⟩

set_option maxHeartbeats 800000 in
theorem below_any {F : Foot} (w : World) (g : Nat) (p c : List UInt8) (v : Value) (I : Int) (i : Nat) (hI : I = i) (hg : PgAt w g p) (hv : RdB F w v c) (hFg : F g) (hi : 26 + 4 * i + 4 ≤ 512) (hc : c.length ≤ lowP p) (hlo : lowP p ≤ 512) :
    Calls Try.prog 54 #[.agg #[PV g], .int .i64 I, v] w fun e w' => e = .returned (.tuple #[]) ∧ PgAt w' g (belowP p i c) ∧ Chg (G1 g) (G1 g) w w' := by
  subst hI
  have hb := Bx.start hg
  have hvG : RdB (G1 g) w v c := hv.mono (fun k _ hk => by rw [show k = g from hk]; exact hFg)
  have hv1 : RdB (G1 g) (w.alloc (.cells #[.slice (some ⟨g, 0, none⟩) 512 512] 65)) v c := hvG.alloc _
  obtain ⟨w1, hw1⟩ : ∃ w1, w.alloc (.cells #[.slice (some ⟨g, 0, none⟩) 512 512] 65) = w1 := ⟨_, rfl⟩
  rw [hw1] at hb hv1
  obtain ⟨a, n, cp, rfl, HN, hlc, hcm⟩ := hv1.formN
  have HN2 := HN
  have hx1 := hb.box
  have HB := Lib.hid hb
  have HV1 := Lib.hid hv1
  have HPL := Lib.hid hg.2
  have hii : (i : Int) ≤ 121 := by omega
  have HI := Lib.hid (And.intro hi (And.intro hc hlo))
  obtain ⟨lo, hlw⟩ : ∃ lo, lowP p = lo := ⟨_, rfl⟩
  have HLW := Lib.hid hlw
  have hnl : (n : Int) ≤ (lo : Int) := by rw [← hlw, HN.out]; omega
  have hll : (lo : Int) ≤ 512 := by omega
  obtain ⟨d, hd⟩ : ∃ d, lo - n = d := ⟨_, rfl⟩
  have hq : (lo : Int) - (n : Int) = (d : Int) := by omega
  have hdi : (d : Int) ≤ 512 := by omega
  have HD : Hid (lo - n = d ∧ n ≤ lo ∧ lo ≤ 512) := by show _ ∧ _; omega
  have hlow := low_any w1 (PV g) p (hb.rd (F := fun _ => False) (fun h => h)) hg.2
  rw [hlw] at hlow
  have HLO := Lib.hid hlow
  clear hg hb hi hc hlo hv hvG hv1 hlow hlw hlc hcm hd
  go_enter Try.func54, Try.ntmps54
  go_wp2_with fail
  refine HLO.out.mono ?_
  rintro e w2 ⟨rfl, hbl2⟩
  have hb2 := HB.out.below hbl2
  have hv2 := RdB.below HV1.out hbl2
  have hx2 := hb2.box
  have hD := HD.out
  have hN := HN.out
  obtain ⟨a3, hsl, ha3⟩ := slice_from g d (d : Int) rfl (by omega)
  obtain ⟨W3, r3, hcr, hp3, hc3⟩ := copy_mid (ty := 3) w2 g d (512 - d) (512 - d) p c _ hb2.pg hv2 (by omega) (by omega) (.slice a3 (512 - d) (512 - d))
    ⟨fun hp => by rw [ha3 (by omega)], _, rfl⟩
  have hb3 := hb2.step hp3 hc3
  have hx3 := hb3.box
  have HB3 := Lib.hid hb3
  clear hb2 hv2 ha3 hp3 hc3 hb3 hbl2 hx1 hD hN HN
  go_wp2_with fail
  refine (put_any _ g _ 16 2 16 2 d rfl rfl HB3.out.pg (by decide) (by decide) (by decide)).mono ?_
  rintro e w4 ⟨rfl, hp4, hc4⟩
  have hb4 := HB3.out.step hp4 hc4
  have hx4 := hb4.box
  have HB4 := Lib.hid hb4
  clear hp4 hc4 hb4 hx3 hx2 hcr hsl
  go_wp2_with fail
  refine (setSlot_any _ g _ _ _ _ i d n rfl rfl rfl HB4.out.pg HI.out.1 (by have := HD.out; omega) (by have := HD.out; omega)).mono ?_
  rintro e w5 ⟨rfl, hp5, hc5⟩
  have hb5 := HB4.out.step hp5 hc5
  have HB5 := Lib.hid hb5
  clear hp5 hc5 hb5 hx4
  go_wp2
  go_end0
  refine ⟨rfl, ?_, HB5.out.chg⟩
  have h5 := HB5.out.pg
  have hd := HD.out.1
  have hl := HLW.out
  unfold belowP
  rw [hl, ← HN2.out, hd]
  exact h5
end Mun
