/- Contracts of what reads a body: a small number, a chunk, a change. -/
import Derived.Test.YtoblajbffnkkiaaRecE
set_option maxRecDepth 100000
set_option linter.unusedVariables false
set_option linter.unusedSimpArgs false
namespace Mun
open Go Go.RowKit
open Go.Proofs

theorem small_any {F : Foot} (w : World) (C : Nat) (v : Value) (N : Nat) (l : List UInt8) (hN : N ≤ 1048576) (h : CurAt F w C v (vi N ++ l)) :
    Calls Try.prog 77 #[.pointer (some ⟨C, 0, none⟩)] w fun e w' => e = .returned (.int .i64 N) ∧ CPost F w C l w' := by
  have hn := number_any w C v N l (by omega) h
  have HN := Lib.hid hn
  have n0 : (0 : Int) ≤ (N : Int) := by omega
  have n1 : (N : Int) ≤ 1048576 := by omega
  have n2 : N ≤ 1048576 := hN
  have HMS : Hid (∀ w1, Calls Try.prog 78 #[.bool true] w1 fun e w' => e = .returned (.tuple #[]) ∧ w1 = w') := fun w1 => must_yes w1
  clear hn h hN
  go_enter Try.func77, Try.ntmps77
  go_wp2_with (first | (go_at_call 75; refine HN.out.mono ?_; rintro e w2 ⟨rfl, hp⟩) | (go_at_call 78; refine (HMS.out _).mono ?_; rintro e w3 ⟨rfl, rfl⟩))
  go_ret
  exact ⟨rfl, hp⟩

/-- bytes just copied -/
def NewB (w w' : World) (v : Value) (b : List UInt8) : Prop := v = .slice (some ⟨w'.heap.size, 0, none⟩) b.length b.length

set_option maxHeartbeats 1000000 in
theorem textr_any {F : Foot} (w : World) (C : Nat) (v : Value) (b l : List UInt8) (hb : b.length ≤ 1048576) (h : CurAt F w C v (txt b ++ l)) :
    Calls Try.prog 76 #[.pointer (some ⟨C, 0, none⟩)] w fun e w' => ∃ g n, e = .returned (.slice (some ⟨g, 0, none⟩) n n) ∧ Hid (n = b.length) ∧ OwnB w' w.heap.size 5 (.slice (some ⟨g, 0, none⟩) n n) b ∧ CPost F w C l w' := by
  unfold txt at h
  rw [List.append_assoc] at h
  obtain ⟨n, hn⟩ : ∃ n, b.length = n := ⟨_, rfl⟩
  rw [hn] at h
  have hs := small_any w C v n _ (by omega) h
  have HS := Lib.hid hs
  have n0 : (0 : Int) ≤ (n : Int) := by omega
  have n1 : (n : Int) ≤ 1048576 := by omega
  have HN := Lib.hid hn
  have HLT := Lib.hid h.lt
  have HMS : Hid (∀ w1, Calls Try.prog 78 #[.bool true] w1 fun e w' => e = .returned (.tuple #[]) ∧ w1 = w') := fun w1 => must_yes w1
  clear hs h hb hn
  go_enter Try.func76, Try.ntmps76
  go_wp2_with fail
  refine HS.out.mono ?_
  rintro e w2 ⟨rfl, v2, hc2, hg2⟩
  obtain ⟨va, vn, vc, rfl, HV, hvc, hvm⟩ := hc2.rd.formN
  have hvn : n ≤ vn := by have := HV.out; have := HN.out; simp only [List.length_append] at *; omega
  have hvl : vn = n + l.length := by have := HV.out; have := HN.out; simp only [List.length_append] at *; omega
  have hvi : (vn : Int) ≤ 9223372036854775807 := by unfold maxLen at hvm; omega
  have c0 := hc2.cell
  have f0 := hc2.free
  have HC2 := Lib.hid hc2
  have HG2 := Lib.hid hg2
  have HVN := Lib.hid hvl
  clear hc2 hg2 hvm hvl hvc
  go_upto_region 3 with (go_at_call 78; refine (HMS.out _).mono ?_; rintro e w3 ⟨rfl, rfl⟩)
  obtain ⟨a1, c1, hr1, hrd1⟩ := slice_bytes_to HC2.out.rd n (by rw [← HV.out]; exact hvn)
  rw [List.take_left' HN.out] at hrd1
  have hmk := make_bytes0 n (by omega) w2.drew
  have hcp := copied_bytes (ty := 23) (show RdB F w2.drew _ _ from RdB.drewN hrd1 1) (by rw [HN.out]; omega)
  rw [HN.out] at hcp
  have hS0 : w2.drew.cell? ⟨C, 0, none⟩ = some (.slice va vn vc) := c0
  obtain ⟨w4, hw4⟩ : ∃ w4, w2.drew.alloc (bobj (List.replicate n 0)) = w4 := ⟨_, rfl⟩
  have hc4 : CurAt F w4 C (.slice va vn vc) (b ++ l) := by rw [← hw4]; exact (HC2.out.below (below_drewN (Below.refl _ _) 1)).below ((Below.refl _ _).alloc (Nat.le_refl _) _)
  obtain ⟨w5, hw5⟩ : ∃ w5, w2.drew.alloc (bobj b) = w5 := ⟨_, rfl⟩
  have hb5 : Below w2.heap.size w2 w5 := by rw [← hw5]; exact (below_drewN (Below.refl _ _) 1).alloc (Nat.le_refl _) _
  have hc5 : CurAt F w5 C (.slice va vn vc) (b ++ l) := HC2.out.below hb5
  have ho5 : OwnB w5 w2.heap.size 5 (.slice (some ⟨w2.heap.size, 0, none⟩) n n) b := by
    rw [← hw5, ← HN.out]
    exact bobj_own w2.drew b b.length _ rfl (maxLen_ge (by rw [HN.out]; omega)) (Nat.le_refl _)
  rw [hw4] at hmk hcp
  rw [hw5] at hcp
  have hS4 : w4.cell? ⟨C, 0, none⟩ = some (.slice va vn vc) := hc4.cell
  have hS5 : w5.cell? ⟨C, 0, none⟩ = some (.slice va vn vc) := hc5.cell
  have HCP := Lib.hid hcp
  have HC5 := Lib.hid hc5
  have HO5 := Lib.hid ho5
  have HB5 := Lib.hid hb5
  clear hcp hc4 hc5 ho5 hb5 hw4 hw5 hrd1 c0
  refine wp_region_U (fun W => W.cell? ⟨C, 0, none⟩ = some (.slice va vn vc)) [] (by kernel_rfl) ?_
  refine wpAnyU_take (i := 0) [1, 8, 9] rfl (by kernel_rfl) (by kernel_rfl) (by kernel_rfl) (by kernel_rfl) (by kernel_rfl) (by kernel_rfl) (fun _ _ _ h => h) (Or.inl ⟨by rfl, (by intro W hSW; (try dsimp only at hSW); (try go_split_ands); go_simp <;> with_reducible rfl)⟩) hS0 ?_
  try simp only [Act.put, List.setIfInBounds_toArray, List.set_cons_zero, List.set_cons_succ]
  refine wpAnyU_take (i := 2) [3, 4, 5, 7, 8, 9] rfl (by kernel_rfl) (by kernel_rfl) (by kernel_rfl) (by kernel_rfl) (by kernel_rfl) (by kernel_rfl) (fun _ _ _ h => h) (Or.inl ⟨by rfl, (by intro W hSW; (try dsimp only at hSW); (try go_split_ands); go_simp <;> with_reducible rfl)⟩) hS0 ?_
  try simp only [Act.put, List.setIfInBounds_toArray, List.set_cons_zero, List.set_cons_succ]
  refine wpAnyU_take (i := 3) [4, 5, 7, 8, 9] rfl (by kernel_rfl) (by kernel_rfl) (by kernel_rfl) (by kernel_rfl) (by kernel_rfl) (by kernel_rfl) (fun _ _ _ h => h) (Or.inl ⟨by rfl, (by intro W hSW; (try dsimp only at hSW); (try go_split_ands); go_simp <;> with_reducible rfl)⟩) hS0 ?_
  try simp only [Act.put, List.setIfInBounds_toArray, List.set_cons_zero, List.set_cons_succ]
  refine wpAnyU_take (i := 4) [5, 7, 8, 9] rfl (by kernel_rfl) (by kernel_rfl) (by kernel_rfl) (by kernel_rfl) (by kernel_rfl) (by kernel_rfl) (fun _ _ _ h => h) (Or.inl ⟨by rfl, (by intro W hSW; (try dsimp only at hSW); (try go_split_ands); go_simp <;> with_reducible rfl)⟩) hS0 ?_
  try simp only [Act.put, List.setIfInBounds_toArray, List.set_cons_zero, List.set_cons_succ]
  refine wpAnyU_take (i := 5) [7, 8, 9] rfl (by kernel_rfl) (by kernel_rfl) (by kernel_rfl) (by kernel_rfl) (by kernel_rfl) (by kernel_rfl) (fun _ _ _ h => h) (Or.inl ⟨by rfl, (by intro W hSW; (try dsimp only at hSW); (try go_split_ands); go_simp <;> with_reducible rfl)⟩) hS0 ?_
  try simp only [Act.put, List.setIfInBounds_toArray, List.set_cons_zero, List.set_cons_succ]
  refine wpAnyU_take (i := 6) [7, 8, 9] rfl (by kernel_rfl) (by kernel_rfl) (by kernel_rfl) (by kernel_rfl) (by kernel_rfl) (by kernel_rfl) (fun _ _ _ h => h) (Or.inl ⟨by rfl, (by intro W hSW; (try dsimp only at hSW); (try go_split_ands); go_simp <;> with_reducible rfl)⟩) hS0 ?_
  try simp only [Act.put, List.setIfInBounds_toArray, List.set_cons_zero, List.set_cons_succ]
  refine wpAnyU_take (i := 7) [8, 9] rfl (by kernel_rfl) (by kernel_rfl) (by kernel_rfl) (by kernel_rfl) (by kernel_rfl) (by kernel_rfl) (fun _ _ _ h => h) (Or.inl ⟨by rfl, (by intro W hSW; (try dsimp only at hSW); (try go_split_ands); go_simp <;> with_reducible rfl)⟩) hS0 ?_
  try simp only [Act.put, List.setIfInBounds_toArray, List.set_cons_zero, List.set_cons_succ]
  refine wpAnyU_one (i := 1) (by kernel_rfl) rfl (fun K hK => ?_)
  go_simp
  refine hK.out _ _ (fun _ => hS4) (fun _ => ?_)
  clear hK K
  refine wpAnyU_one (i := 8) (by kernel_rfl) rfl (fun K hK => ?_)
  refine step_append_is rfl rfl HCP.out rfl rfl ?_
  refine hK.out _ _ (fun _ => hS5) (fun _ => ?_)
  clear hK K
  refine wpAnyU_take (i := 9) [] rfl (by kernel_rfl) (by kernel_rfl) (by kernel_rfl) (by kernel_rfl) (by kernel_rfl) (by kernel_rfl) (fun _ _ _ h => h) (Or.inl ⟨by rfl, (by intro W hSW; (try dsimp only at hSW); (try go_split_ands); go_simp <;> with_reducible rfl)⟩) hS5 ?_
  try simp only [Act.put, List.setIfInBounds_toArray, List.set_cons_zero, List.set_cons_succ]
  refine wpAnyU_done (by kernel_rfl) ?_ _
  clear hS0 hS4 hmk hr1 f0
  obtain ⟨a6, c6, hr6, hrd6⟩ := slice_bytes_from HC5.out.rd n (by rw [← HV.out]; exact hvn)
  rw [List.drop_left' HN.out] at hrd6
  have hset := HC5.out.set hrd6
  have f5 := HC5.out.free
  have HSET := Lib.hid hset
  clear hrd6 hset
  go_wp2
  go_ret
  refine ⟨_, _, rfl, HN.out.symm, ?_, _, HSET.out, ?_⟩
  · have h1 := ownsRow_base HO5.out (base' := w.heap.size) (fun k hk => by have := (HO5.out.lt k hk).1; have := HG2.out.size; omega)
    exact OwnB.chg (F := B1 C) (F' := B1 C) h1 (chg_setCell _ _ _ rfl) (fun k hk hkC => by have := (HO5.out.lt k hk).1; have := HC2.out.lt; have : k = C := hkC; omega)
  · exact (HG2.out.trans (Chg.of_below HB5.out _)).trans (chg_setCell _ _ _ rfl)
end Mun
