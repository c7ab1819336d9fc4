/- The walk of LockMore. -/
import Derived.Test.YtbdkhegfmnladaaLockK
import Derived.Test.YtbdkhegfmnladaaLockG
import Derived.Test.YtbdkhegfmnladaaLockI
import Derived.Test.YtbdkhegfmnladaaHeldO
set_option maxRecDepth 100000
set_option linter.unusedVariables false
namespace Mun
open Go Go.RowKit
open Go.Proofs

/-- another owner asks for the name that one holds -/
theorem ask_other {W0 w : World} {T P W N p H M : Nat} {o o2 m0 : Int} {s : ByteArray} (h : One W0 w T P W N p H M o s m0) (ho : o2 ≠ 0) (hne : o2 ≠ o) (m : Int) (him : isM m = true) :
    Calls Try.prog 17 #[.pointer (some ⟨T, 0, none⟩), .int .u64 o2, .string s, .int .i64 m] w fun e w' => e = .returned (.int .i64 (if tog m0 m = true then 0 else 10)) ∧ Below W0.heap.size W0 w' := by
  have hpa : glook (α := ByteArray) [(s, Value.pointer (some ⟨p, 0, none⟩))] s = some (.pointer (some ⟨p, 0, none⟩)) := by simp [glook]
  have hh : glook (α := Int) [(o, Value.int .i64 m0)] o2 = none := by simp [glook, Ne.symm hne]
  have hn : glook (α := Int) [(o, Value.map (some M))] o2 = none := by simp [glook, Ne.symm hne]
  have hg : goesP [(o, .int .i64 m0)] o2 m = tog m0 m := by simp [goesP, Ne.symm hne]
  have hm : ModesAt [(o, .int .i64 m0)] := fun q hq => by rw [List.mem_singleton] at hq; exact ⟨m0, by rw [hq]⟩
  obtain ⟨⟨d1, d2, d3, d4, d5, d6⟩, e1, e2, e3, e4⟩ := h.ne
  have h1 := h.bl.size
  have h2 := h.own
  cases ht : tog m0 m with
  | true =>
    refine (ask_there w T P W N p H _ _ _ _ o2 m s h.tab hpa h.pl hm ho him rfl hh hn (by rw [hg, ht]) d1 d2 d3 d4 d5).mono ?_
    rintro e w' ⟨rfl, M2, t1, p1, s1, x1, x2, x3, y1, y2, y3, k1⟩
    exact ⟨rfl, x1.trans h.bl.os, x2.trans h.bl.tape, x3.trans h.bl.output, by omega, fun k hk => by rw [k1 k (by omega) (by omega) (by omega), h.bl.block k hk]⟩
  | false =>
    refine (ask_later w T P W N p H _ _ _ _ o2 m s h.tab hpa h.pl hm ho him rfl hh (by rw [hg, ht])).mono ?_
    rintro e w' ⟨rfl, s1, x1, x2, x3, k1⟩
    exact ⟨by simp, x1.trans h.bl.os, x2.trans h.bl.tape, x3.trans h.bl.output, by omega, fun k hk => by rw [k1 k (by omega) (by omega) (by omega), h.bl.block k hk]⟩

set_option maxHeartbeats 1000000 in
theorem more_ok (w : World) (a b c : Int) : Calls Try.prog 4 #[.int .i64 a, .int .i64 b, .int .i64 c] w fun e w' => e = .returned (.bool true) ∧ Below w.heap.size w w' := by
  obtain ⟨qa, ha, hma, ha0, ha3⟩ := mode_and3 a
  obtain ⟨qb, hb, hmb, hb0, hb3⟩ := mode_and3 b
  obtain ⟨qc, hc, hmc, hc0, hc3⟩ := mode_and3 c
  have haw := awake14 w
  have HL := Lib.hid (And.intro (jn_laws hma hmb hmc) (And.intro hma (And.intro hmb hmc)))
  clear hma hmb hmc
  have wa : IntKind.i64.wrap (1 + qa) = 1 + qa := by rw [IntKind.wrap_i64]; omega
  have wb : IntKind.i64.wrap (1 + qb) = 1 + qb := by rw [IntKind.wrap_i64]; omega
  have wc : IntKind.i64.wrap (1 + qc) = 1 + qc := by rw [IntKind.wrap_i64]; omega
  obtain ⟨x, hx⟩ : ∃ x, 1 + qa = x := ⟨_, rfl⟩
  obtain ⟨y, hy⟩ : ∃ y, 1 + qb = y := ⟨_, rfl⟩
  obtain ⟨z, hz⟩ : ∃ z, 1 + qc = z := ⟨_, rfl⟩
  rw [hx, hy, hz] at HL
  go_enter Try.func4, Try.ntmps4
  go_wp2_with fail
  refine haw.mono ?_
  rintro e w1 ⟨rfl, hb1⟩
  go_wp2_with fail
  refine (tabNew_any w1).mono ?_
  rintro e w2 ⟨rfl, hb2, hs2, ht2⟩
  have h1 := one_start hb1 1 x ⟨#[110]⟩ (by decide) HL.out.2.1 hb2 hs2 ht2
  have H1 := Lib.hid h1
  clear haw hb1 hb2 hs2 ht2 h1
  go_wp2_with fail
  refine H1.out.mono ?_
  rintro e w3 ⟨rfl, p, H, M, h3⟩
  have A3 := Lib.hid (ask_again h3 (by decide) y HL.out.2.2.1)
  clear h3 H1
  go_wp2_with fail
  refine A3.out.mono ?_
  rintro e w4 ⟨rfl, h4⟩
  have A4 := Lib.hid (ask_again h4 (by decide) z HL.out.2.2.2)
  clear h4 A3
  go_wp2_with fail
  refine A4.out.mono ?_
  rintro e w5 ⟨rfl, h5⟩
  have a5 := ask_again h5 (by decide) x HL.out.2.1
  rw [HL.out.1.2.2.1] at a5
  have A5 := Lib.hid a5
  clear h5 A4 a5
  go_wp2_with fail
  refine A5.out.mono ?_
  rintro e w6 ⟨rfl, h6⟩
  have A6 := Lib.hid (And.intro (held_one h6) h6)
  clear h6 A5
  go_wp2_with fail
  refine A6.out.1.mono ?_
  rintro e w7 ⟨g, c9, rfl, k0, k1, hb7⟩
  have h7 := A6.out.2.below hb7
  have H7 := Lib.hid h7
  clear h7 hb7 A6 k0
  go_wp2_with fail
  refine (join_any _ _ _).mono ?_
  rintro e w' ⟨rfl, rfl⟩
  go_wp2_with fail
  refine (join_any _ _ _).mono ?_
  rintro e w' ⟨rfl, rfl⟩
  go_wp2_with fail
  refine (join_any _ _ _).mono ?_
  rintro e w' ⟨rfl, rfl⟩
  go_wp2_with fail
  refine (join_any _ _ _).mono ?_
  rintro e w' ⟨rfl, rfl⟩
  rw [HL.out.1.2.2.2.1]
  go_wp2_with fail
  refine (join_any _ _ _).mono ?_
  rintro e w' ⟨rfl, rfl⟩
  go_wp2_with fail
  refine (join_any _ _ _).mono ?_
  rintro e w' ⟨rfl, rfl⟩
  rw [HL.out.1.2.2.2.2]
  have ao := ask_other H7.out (o2 := 2) (by decide) (by decide) y HL.out.2.2.1
  cases ht : tog (jn (jn x y) z) y with
  | true =>
    rw [ht] at ao
    have AO := Lib.hid ao
    have HT := Lib.hid ht
    clear ao ht
    go_wp2_with fail
    refine AO.out.mono ?_
    rintro e w8 ⟨rfl, hb8⟩
    go_wp2_with fail
    refine (together_any _ _ _).mono ?_
    rintro e w9 ⟨rfl, hb9⟩
    rw [HT.out]
    go_wp2
    go_ret
    exact ⟨rfl, hb8.trans (hb9.mono hb8.size)⟩
  | false =>
    rw [ht] at ao
    have AO := Lib.hid ao
    have HT := Lib.hid ht
    clear ao ht
    go_wp2_with fail
    refine AO.out.mono ?_
    rintro e w8 ⟨rfl, hb8⟩
    go_wp2_with fail
    refine (together_any _ _ _).mono ?_
    rintro e w9 ⟨rfl, hb9⟩
    rw [HT.out]
    go_wp2
    go_ret
    exact ⟨rfl, hb8.trans (hb9.mono hb8.size)⟩
end Mun
