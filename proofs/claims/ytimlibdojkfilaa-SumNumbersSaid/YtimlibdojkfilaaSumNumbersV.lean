import Derived.Test.YtimlibdojkfilaaSumNumbersW
set_option maxRecDepth 100000
set_option linter.unusedVariables false
namespace Mun
open Go Go.RowKit
open Go.Proofs

set_option maxHeartbeats 1000000 in
theorem numbers_big (w : World) (v : Value) (l : List UInt8) (n A K : Nat) (hv : RdB NoF w v l) (hlen : l.length ≤ 140737488351232)
    (hn : liesB l.length A K = true) (h8 : K < 8) (hbig : 256 ^ K ≤ n) :
    Calls Try.prog 4 #[v, .int .i64 A, .int .i64 K, .int .u64 n] w fun e w' => e = .returned (.bool true) ∧ Below w.heap.size w w' := by
  have HN := Lib.hid hn
  obtain ⟨hs, h0, h1, h2⟩ := liesB_true hn
  obtain ⟨a, c, rfl, hlc, hcm⟩ := hv.form
  have hm : (l.length : Int) ≤ 9223372036854775807 := by omega
  have hK : (K = 1 ∧ (256 : Int) ≤ n) ∨ (K = 2 ∧ (65536 : Int) ≤ n) ∨ (K = 4 ∧ (4294967296 : Int) ≤ n) := by
    have h3 : K = 1 ∨ K = 2 ∨ K = 4 := by omega
    rcases h3 with rfl | rfl | rfl
    · exact .inl ⟨rfl, by omega⟩
    · exact .inr (.inl ⟨rfl, by omega⟩)
    · exact .inr (.inr ⟨rfl, by omega⟩)
  have HB := Lib.hid hbig
  obtain ⟨q, hq⟩ : ∃ q : Nat, leNat ((l.drop A).take K) = q := ⟨_, rfl⟩
  have HQ : Hid (((leNat ((l.drop (A : Int).toNat).take (K : Int).toNat) : Nat) : Int) = (q : Int)) := by
    show _ = _
    rw [Int.toNat_natCast, Int.toNat_natCast, hq]
  have HQ2 : Hid (((leNat ((l.drop A).take K) : Nat) : Int) = (q : Int)) := by show _ = _; rw [hq]
  clear hq
  clear hn hs hbig
  rcases hK with ⟨rfl, hge⟩ | ⟨rfl, hge⟩ | ⟨rfl, hge⟩
  all_goals
    go_enter Try.func4, Try.ntmps4
    go_wp2_with (first
      | (go_at_call 9; refine (put_big _ _ l _ _ _ _ rfl hv HN.out (by omega) HB.out).mono ?_; rintro e w' ⟨rfl, rfl⟩)
      | (go_at_call 10; refine (get_yes _ _ l _ _ q HQ.out hv HN.out).mono ?_; rintro e w' ⟨rfl, rfl⟩)
      | (go_at_call 11; refine (refget_any _ _ l _ _ A 1 q rfl rfl HQ2.out (hv.below (by assumption)) (by omega) (by omega)).mono ?_; rintro e w' ⟨rfl, rfl⟩)
      | (go_at_call 11; refine (refget_any _ _ l _ _ A 2 q rfl rfl HQ2.out (hv.below (by assumption)) (by omega) (by omega)).mono ?_; rintro e w' ⟨rfl, rfl⟩)
      | (go_at_call 11; refine (refget_any _ _ l _ _ A 4 q rfl rfl HQ2.out (hv.below (by assumption)) (by omega) (by omega)).mono ?_; rintro e w' ⟨rfl, rfl⟩)
      | (go_at_call 7; refine (awake1 _).mono ?_; rintro e w' ⟨rfl, hb⟩))
    go_ret
    exact ⟨rfl, by assumption⟩

end Mun
