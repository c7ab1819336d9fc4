import Derived.Test.YtimlibdojkfilaaSumNumbersU
set_option maxRecDepth 100000
set_option linter.unusedVariables false
namespace Mun
open Go Go.RowKit
open Go.Proofs

theorem numbers_all (w : World) (v : Value) (l : List UInt8) (at_ sz : Int) (n : Nat) (hv : RdB NoF w v l) (hlen : l.length ≤ 140737488351232)
    (h1 : -9223372036854775808 ≤ at_) (h2 : at_ ≤ 9223372036854775807) (h3 : -9223372036854775808 ≤ sz) (h4 : sz ≤ 9223372036854775807) (h5 : n ≤ 18446744073709551615) :
    Calls Try.prog 4 #[v, .int .i64 at_, .int .i64 sz, .int .u64 n] w fun e w' => e = .returned (.bool true) ∧ Below w.heap.size w w' := by
  cases hL : liesB l.length at_ sz with
  | false => exact numbers_no w v l at_ sz n hv hlen h1 h2 h3 h4 hL
  | true =>
    obtain ⟨hs, ha, hl, hb⟩ := liesB_true hL
    obtain ⟨A, rfl⟩ := Int.eq_ofNat_of_zero_le ha
    obtain ⟨K, rfl⟩ := Int.eq_ofNat_of_zero_le (show 0 ≤ sz by omega)
    by_cases hbig : K < 8 ∧ 256 ^ K ≤ n
    · exact numbers_big w v l n A K hv hlen hL hbig.1 hbig.2
    · exact numbers_ok w v l n A K hv hlen (by omega) hL (fun h => by
        rcases Nat.lt_or_ge n (256 ^ K) with h' | h'
        · exact h'
        · exact absurd ⟨h, h'⟩ hbig)
end Mun
