/- awake of the laws on locks: a lock that two share, and one that waits. -/
import Derived.Test.YtbdkhegfmnladaaMgC
set_option maxRecDepth 100000
set_option linter.unusedVariables false
namespace Mun
open Go Go.RowKit
open Go.Proofs

theorem awake14 (w : World) : Calls Try.prog 11 #[] w fun e w' => e = .returned (.bool true) ∧ Below w.heap.size w w' := by
  have hnew := tabNew_any w
  go_enter Try.func11, Try.ntmps11
  go_wp2_with fail
  refine hnew.mono ?_
  rintro e w1 ⟨rfl, hb1, hs1, ht1⟩
  have hc1 := ask_new w1 _ _ _ _ [] [] [] 1 3 ⟨#[97]⟩ ht1 rfl (by decide) rfl rfl rfl (by omega) (by omega) (by omega)
  have HC1 := Lib.hid hc1
  have HB1 := Lib.hid (And.intro hb1 hs1)
  clear hnew hb1 hs1 ht1 hc1
  go_wp2_with fail
  refine HC1.out.mono ?_
  rintro e w2 ⟨rfl, p, H, M, ht2, hp2, -, hs2, hM1, hM2, hpl, hHl, x1, x2, x3, hk2⟩
  have hs1 := HB1.out.2
  have hHlt := hp2.hl.lt
  have hc2 := ask_there w2 _ _ _ _ p H _ _ _ _ 2 3 ⟨#[97]⟩ ht2 (by simp [glook_gset]) hp2 (by intro q hq; simp at hq; exact ⟨3, by rw [hq]⟩) (by decide) rfl rfl rfl rfl (by decide) (by omega) (by omega) (by omega) (by omega) (by omega)
  have HC2 := Lib.hid hc2
  have HB2 : Hid (w1.heap.size ≤ w2.heap.size ∧ (w2.os = w1.os ∧ w2.tape = w1.tape ∧ w2.output = w1.output) ∧ w1.heap.size ≤ p ∧ w1.heap.size ≤ H ∧ ∀ k, k < w.heap.size → w2.heap[k]? = w1.heap[k]?) := by
    show _ ∧ _
    exact ⟨hs2, ⟨x1, x2, x3⟩, hpl, hHl, fun k hk => hk2 k (by omega) (by omega) (by omega)⟩
  clear HC1 ht2 hp2 hs2 hM1 hM2 hpl hHl x1 x2 x3 hk2 hc2 hs1 hHlt
  go_wp2_with fail
  refine HC2.out.mono ?_
  rintro e w3 ⟨rfl, M3, ht3, hp3, hs3, x1, x2, x3, hM1, hM2, -, hk3⟩
  have hb2 := HB2.out
  have hs1 := HB1.out.2
  have hc3 := ask_wait w3 _ _ _ _ p H _ _ _ _ 1 4 3 ⟨#[97]⟩ ht3 (by simp [glook_gset]) hp3 (by
      intro q hq
      simp [gset] at hq
      rcases hq with hq | hq <;> exact ⟨3, by rw [hq]⟩) (by decide) rfl rfl rfl (by decide) (by decide)
  have HC3 := Lib.hid hc3
  have HB3 : Hid (w2.heap.size ≤ w3.heap.size ∧ (w3.os = w2.os ∧ w3.tape = w2.tape ∧ w3.output = w2.output) ∧ ∀ k, k < w.heap.size → w3.heap[k]? = w2.heap[k]?) := by
    show _ ∧ _
    exact ⟨hs3, ⟨x1, x2, x3⟩, fun k hk => hk3 k (by omega) (by omega) (by omega)⟩
  clear HC2 ht3 hp3 hs3 hM1 hM2 x1 x2 x3 hk3 hc3 hs1 hb2
  go_wp2_with fail
  refine HC3.out.mono ?_
  rintro e w4 ⟨rfl, hs4, x1, x2, x3, hk4⟩
  go_wp2
  go_ret
  have h1 := HB1.out
  have h2 := HB2.out
  have h3 := HB3.out
  have h1s := h1.1.size
  refine ⟨rfl, x1.trans (h3.2.1.1.trans (h2.2.1.1.trans h1.1.os)), x2.trans (h3.2.1.2.1.trans (h2.2.1.2.1.trans h1.1.tape)), x3.trans (h3.2.1.2.2.trans (h2.2.1.2.2.trans h1.1.output)), by omega, fun k hk => ?_⟩
  rw [hk4 k (by omega) (by omega) (by omega), h3.2.2 k hk, h2.2.2.2.2 k hk, h1.1.block k hk]

theorem modes_ok (w : World) (a b : Int) : Calls Try.prog 3 #[.int .i64 a, .int .i64 b] w fun e w' => e = .returned (.bool true) ∧ Below w.heap.size w w' := by
  have haw := awake14 w
  go_enter Try.func3, Try.ntmps3
  go_wp2_with fail
  refine haw.mono ?_
  rintro e w1 ⟨rfl, hb1⟩
  go_wp2_with fail
  refine (together_any _ _ _).mono ?_
  rintro e w2 ⟨rfl, hb2⟩
  go_wp2_with fail
  refine (reftogether_any _ _ _).mono ?_
  rintro e w3 ⟨rfl, hb3⟩
  have ht : (tog a b == tog a b) = true := by simp
  go_wp2_with fail
  refine (join_any _ _ _).mono ?_
  rintro e w4 ⟨rfl, rfl⟩
  go_wp2_with fail
  refine (refjoin_any _ _ _).mono ?_
  rintro e w5 ⟨rfl, rfl⟩
  go_wp2
  go_ret
  exact ⟨rfl, hb1.trans ((hb2.trans (hb3.mono hb2.size)).mono hb1.size)⟩
end Mun
