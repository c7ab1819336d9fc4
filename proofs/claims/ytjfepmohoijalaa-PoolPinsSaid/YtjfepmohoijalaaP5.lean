/- Contract of anew: a page's cells laid out anew. -/
import Derived.Test.YtjfepmohoijalaaP4
import Derived.Test.YtjfepmohoijalaaPageN
set_option maxRecDepth 100000
set_option linter.unusedVariables false
set_option linter.unusedSimpArgs false
namespace Mun
open Go Go.RowKit
open Go.Proofs

theorem clear_any {ty : TypeId} (W : World) (g A n c : Nat) (p : List UInt8) (hg : PgAt W g p) (hA : A + n ≤ 512) :
    ∃ W', (Builtin.clear_ #[31] ty #[.slice (some ⟨g, A, none⟩) n c]).run Try.prog W = .ok (.tuple #[]) W' ∧ PgAt W' g (putAt p A (zer n)) ∧ Chg (G1 g) (G1 g) W W' := by
  rcases Nat.eq_zero_or_pos n with rfl | hn
  · refine ⟨W, ?_, ?_, Chg.refl _ _⟩
    · simp [Builtin.clear_, run_underlying Try.underlying31, zero_u8]
    · rw [show zer 0 = [] from rfl, putAt_nil]; exact hg
  · exact clear_mid W g A n c p hg hn hA


theorem anewS_length (p : PBytes) (hp : p.length = 512) (n : Nat) (hn : 26 + 4 * n ≤ 512) (hs : szs p n ≤ 512) (hc : ∀ i, i < n → sFrom p i + sSize p i ≤ 512) : ∀ k, k ≤ n → (anewS p k).length = 512
  | 0, _ => hp
  | k + 1, hk => by
    have ih := anewS_length p hp n hn hs hc k (by omega)
    have h1 : szs p (k + 1) ≤ szs p n := szs_mono p hk
    have h2 : szs p (k + 1) = szs p k + sSize p k := rfl
    have h3 := hc k (by omega)
    have hl : (cellP p k).length = sSize p k := by unfold cellP; rw [List.length_take, List.length_drop]; omega
    have h4 : (putAt (anewS p k) (512 - szs p (k + 1)) (cellP p k)).length = 512 := by rw [putAt_length _ _ _ (by rw [hl]; omega), ih]
    unfold anewS
    rw [ss_length _ _ _ _ (by omega), h4]

/-- a round of anew stands so -/
structure AnewR (w1 wr : World) (b g b2 : Nat) (vold : Value) (p : PBytes) (k : Nat) : Prop where
  bx : Bx w1 wr b g (anewS p k)
  old : wr.cell? ⟨b2, 0, none⟩ = some vold
  rd : RdB (G1 g) wr vold p

end Mun
