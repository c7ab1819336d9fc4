/- The reference's Waits. -/
import Derived.Test.YtbdkhegfmnladaaRfD
set_option maxRecDepth 100000
set_option linter.unusedVariables false
set_option linter.unusedSimpArgs false
namespace Mun
open Go Go.RowKit
open Go.Proofs

/-- where an owner waits, for what -/
def waitP : List LX → Int → Option (ByteArray × Int)
  | [], _ => none
  | x :: X, o => match klook x.qs o with
    | some m => some (x.name, m)
    | none => waitP X o
def waitV : Option (ByteArray × Int) → Value
  | some (s, m) => .tuple #[.string s, .int .i64 m, .bool true]
  | none => .tuple #[.string ⟨#[]⟩, .int .i64 0, .bool false]
theorem waitP_drop {X : List LX} {o : Int} {i : Nat} (hi : i < X.length) : waitP (X.drop i) o = match klook X[i].qs o with
    | some m => some (X[i].name, m)
    | none => waitP (X.drop (i + 1)) o := by
  rw [List.drop_eq_getElem_cons hi, waitP]

set_option maxHeartbeats 2000000 in
theorem r14_waits {F : Foot} (w : World) (v : Value) (X : List LX) (h : TabF F w v X) (hl : X.length ≤ 8796093021999) (hh : ∀ x ∈ X, x.qs.length ≤ 8796093022200) (o : Int) :
    Calls Try.prog 41 #[.agg #[v], .int .u64 o] w fun e w' => e = .returned (waitV (waitP X o)) ∧ Below w.heap.size w w' := by
  obtain ⟨ha, hc, rfl, -, -⟩ := h.row.form
  obtain ⟨n, hn⟩ : ∃ n, X.length = n := ⟨_, rfl⟩
  rw [hn] at h ⊢
  obtain ⟨wb, hwb⟩ : ∃ wb, w.alloc (.cells #[.slice ha n hc] 51) = wb := ⟨_, rfl⟩
  have hbb : Below w.heap.size w wb := by rw [← hwb]; exact (Below.refl _ _).alloc (Nat.le_refl _) _
  have kb : wb.heap[w.heap.size]? = some (.cells #[.slice ha n hc] 51 (0, 0)) := by rw [← hwb]; exact heap_alloc_new w _
  have HX := Lib.hid (And.intro h (And.intro hn (And.intro hl hh)))
  have HW := Lib.hid (And.intro hbb kb)
  obtain ⟨R, hR⟩ : ∃ R, waitP X o = R := ⟨_, rfl⟩
  have HR := Lib.hid hR
  rw [hR]
  clear h hn hl hbb kb hh hR
  go_enter Try.func41, Try.ntmps41
  go_wp2_with fail
  go_loopw [7] (fun iv wr => ∃ i : Nat, iv = .int .i64 i ∧ i ≤ n ∧ R = waitP (X.drop i) o ∧ Below wb.heap.size wb wr) (fun iv _ => n - (Go.RowKit.intOf iv).toNat)
  case atStart => exact ⟨0, rfl, Nat.zero_le _, by rw [List.drop_zero]; exact HR.out.symm, by first | exact Below.refl _ _ | (rw [hwb]; exact Below.refl _ _)⟩
  case round =>
    obtain ⟨i, rfl, hin, hRi, hb⟩ := hrel
    have hbx := (hb.block _ (lt_of_block HW.out.2)).trans HW.out.2
    have hbw := HW.out.1.trans (hb.mono HW.out.1.size)
    have z0 : wr.cell? ⟨w.heap.size, 0, none⟩ = some (.slice ha n hc) := cell_of_row wr w.heap.size 0 _ _ _ hbx
    by_cases hlt : i < n
    · have hil : i < X.length := by rw [HX.out.2.1]; exact hlt
      obtain ⟨g, off, rfl, hco⟩ := HX.out.1.at_ HX.out.2.1 i hil
      have hwd := waitP_drop (o := o) hil
      have hxm := List.getElem_mem hil
      obtain ⟨x, hx⟩ : ∃ x, X[i] = x := ⟨_, rfl⟩
      rw [hx] at hco hwd hxm
      rw [← hRi] at hwd
      have hga := HX.out.1.qr x hxm
      obtain ⟨qa, qc, hqv, -, -⟩ := hga.form
      rw [hqv] at hga hco
      obtain ⟨qn, hqn⟩ : ∃ qn, x.qs.length = qn := ⟨_, rfl⟩
      rw [hqn] at hga hco
      obtain ⟨xs, hxs⟩ : ∃ xs, x.name = xs := ⟨_, rfl⟩
      rw [hxs] at hco hwd
      have hii : (i : Int) < (n : Int) := by omega
      have hi0 : (0 : Int) ≤ (i : Int) := by omega
      have HWJ : Hid (wrap64 ((i : Int) + 1) = ((i + 1 : Nat) : Int)) := by show _ = _; have := HX.out.2.1; have := HX.out.2.2.1; unfold wrap64; omega
      have HG := Lib.hid (And.intro hco (And.intro hga (And.intro hqn (And.intro (by have := HX.out.2.2.2 x hxm; rw [hqn] at this; exact this : qn ≤ 8796093022200) (And.intro hwd (And.intro hlt hb))))))
      clear hco hga hqn hqv hx hxm hil hlt hin hxs hwd hRi hb hbx hbw
      obtain ⟨ws, rfl⟩ : ∃ ws : World, ws = wr := ⟨_, rfl⟩
      go_wp2_with fail
      clear z0
      go_loopw [8] (fun kv wr => ∃ k : Nat, kv = .int .i64 k ∧ k ≤ qn ∧ klook x.qs o = klook (x.qs.drop k) o ∧ Below wb.heap.size wb wr) (fun kv _ => qn - (Go.RowKit.intOf kv).toNat)
      case atStart => exact ⟨0, rfl, Nat.zero_le _, by rw [List.drop_zero], HG.out.2.2.2.2.2.2⟩
      case round =>
        obtain ⟨k, rfl, hkn, hkl, hb⟩ := hrel
        have hbx := (hb.block _ (lt_of_block HW.out.2)).trans HW.out.2
        have hbw := HW.out.1.trans (hb.mono HW.out.1.size)
        have z0 : wr.cell? ⟨w.heap.size, 0, none⟩ = some (.slice (some ⟨g, off, none⟩) n hc) := cell_of_row wr w.heap.size 0 _ _ _ hbx
        obtain ⟨x0, -, x2⟩ := HG.out.1 wr hbw
        by_cases hlt : k < qn
        · have hil : k < x.qs.length := by rw [HG.out.2.2.1]; exact hlt
          obtain ⟨qg, qo, rfl, hqo⟩ := HG.out.2.1.at_ HG.out.2.2.1 k hil
          obtain ⟨c0, c1⟩ := hqo wr hbw
          have hkd := klook_drop (o := o) hil
          obtain ⟨p, hp⟩ : ∃ p, x.qs[k] = p := ⟨_, rfl⟩
          rw [hp] at c0 c1 hkd
          obtain ⟨u, m⟩ := p
          simp only at c0 c1 hkd
          have hkk : (k : Int) < (qn : Int) := by omega
          have hk0 : (0 : Int) ≤ (k : Int) := by omega
          have HWK : Hid (wrap64 ((k : Int) + 1) = ((k + 1 : Nat) : Int)) := by show _ = _; have := HG.out.2.2.2.1; unfold wrap64; omega
          have HK := Lib.hid (And.intro hkl (And.intro hkd (And.intro hlt (And.intro hb hbw))))
          clear hkl hkd hlt hb hbw hkn hqo hil hp hbx
          by_cases he : u = o
          · have hbb : (u == o) = true := by simp [he]
            have hRv : R = some (xs, m) := by
              have h9 := HG.out.2.2.2.2.1
              rw [HK.out.1, HK.out.2.1, if_pos he] at h9
              exact h9
            have HRV := Lib.hid hRv
            have hS0 : wr.drew.cell? ⟨w.heap.size, 0, none⟩ = some (.slice (some ⟨g, off, none⟩) n hc) ∧ wr.drew.cell? ⟨g, off + i * 3, none⟩ = some (.string xs) ∧ wr.drew.cell? ⟨g, off + i * 3 + 2, none⟩ = some (.slice (some ⟨qg, qo, none⟩) qn qc) ∧ wr.drew.cell? ⟨qg, qo + k * 2 + 1, none⟩ = some (.int .i64 m) := ⟨z0, x0, x2, c1⟩
            clear hRv
            go_upto_region 8 with (fail)
            clear z0 x0 x2 c0 c1
            refine wp_region_U (fun W => W.cell? ⟨w.heap.size, 0, none⟩ = some (.slice (some ⟨g, off, none⟩) n hc) ∧ W.cell? ⟨g, off + i * 3, none⟩ = some (.string xs) ∧ W.cell? ⟨g, off + i * 3 + 2, none⟩ = some (.slice (some ⟨qg, qo, none⟩) qn qc) ∧ W.cell? ⟨qg, qo + k * 2 + 1, none⟩ = some (.int .i64 m)) [] (by kernel_rfl) ?_
            refine wpAnyU_take (i := 0) [1, 3, 4, 5, 16, 17, 18] rfl (by as_aux_lemma => kernel_rfl) (by as_aux_lemma => kernel_rfl) (by as_aux_lemma => kernel_rfl) (by as_aux_lemma => kernel_rfl) (by as_aux_lemma => kernel_rfl) (by as_aux_lemma => kernel_rfl) (fun _ _ _ h => h) (Or.inl ⟨by rfl, (by intro W hSW; (try dsimp only at hSW); (try go_split_ands); go_simp <;> with_reducible rfl)⟩) hS0 ?_
            try simp only [Act.put, List.getElem_toArray, List.getElem_cons_succ, List.getElem_cons_zero, List.setIfInBounds_toArray, List.set_cons_zero, List.set_cons_succ]
            refine wpAnyU_take (i := 1) [3, 4, 5, 16, 17, 18] rfl (by as_aux_lemma => kernel_rfl) (by as_aux_lemma => kernel_rfl) (by as_aux_lemma => kernel_rfl) (by as_aux_lemma => kernel_rfl) (by as_aux_lemma => kernel_rfl) (by as_aux_lemma => kernel_rfl) (fun _ _ _ h => h) (Or.inl ⟨by rfl, (by intro W hSW; (try dsimp only at hSW); (try go_split_ands); go_simp <;> with_reducible rfl)⟩) hS0 ?_
            try simp only [Act.put, List.getElem_toArray, List.getElem_cons_succ, List.getElem_cons_zero, List.setIfInBounds_toArray, List.set_cons_zero, List.set_cons_succ]
            refine wpAnyU_take (i := 2) [3, 4, 5, 16, 17, 18] rfl (by as_aux_lemma => kernel_rfl) (by as_aux_lemma => kernel_rfl) (by as_aux_lemma => kernel_rfl) (by as_aux_lemma => kernel_rfl) (by as_aux_lemma => kernel_rfl) (by as_aux_lemma => kernel_rfl) (fun _ _ _ h => h) (Or.inl ⟨by rfl, (by intro W hSW; (try dsimp only at hSW); (try go_split_ands); go_simp <;> with_reducible rfl)⟩) hS0 ?_
            try simp only [Act.put, List.getElem_toArray, List.getElem_cons_succ, List.getElem_cons_zero, List.setIfInBounds_toArray, List.set_cons_zero, List.set_cons_succ]
            refine wpAnyU_take (i := 3) [4, 5, 16, 17, 18] rfl (by as_aux_lemma => kernel_rfl) (by as_aux_lemma => kernel_rfl) (by as_aux_lemma => kernel_rfl) (by as_aux_lemma => kernel_rfl) (by as_aux_lemma => kernel_rfl) (by as_aux_lemma => kernel_rfl) (fun _ _ _ h => h) (Or.inl ⟨by rfl, (by intro W hSW; (try dsimp only at hSW); (try go_split_ands); go_simp <;> with_reducible rfl)⟩) hS0 ?_
            try simp only [Act.put, List.getElem_toArray, List.getElem_cons_succ, List.getElem_cons_zero, List.setIfInBounds_toArray, List.set_cons_zero, List.set_cons_succ]
            refine wpAnyU_take (i := 4) [5, 16, 17, 18] rfl (by as_aux_lemma => kernel_rfl) (by as_aux_lemma => kernel_rfl) (by as_aux_lemma => kernel_rfl) (by as_aux_lemma => kernel_rfl) (by as_aux_lemma => kernel_rfl) (by as_aux_lemma => kernel_rfl) (fun _ _ _ h => h) (Or.inl ⟨by rfl, (by intro W hSW; (try dsimp only at hSW); (try go_split_ands); go_simp <;> with_reducible rfl)⟩) hS0 ?_
            try simp only [Act.put, List.getElem_toArray, List.getElem_cons_succ, List.getElem_cons_zero, List.setIfInBounds_toArray, List.set_cons_zero, List.set_cons_succ]
            refine wpAnyU_take (i := 5) [16, 17, 18] rfl (by as_aux_lemma => kernel_rfl) (by as_aux_lemma => kernel_rfl) (by as_aux_lemma => kernel_rfl) (by as_aux_lemma => kernel_rfl) (by as_aux_lemma => kernel_rfl) (by as_aux_lemma => kernel_rfl) (fun _ _ _ h => h) (Or.inl ⟨by rfl, (by intro W hSW; (try dsimp only at hSW); (try go_split_ands); go_simp <;> with_reducible rfl)⟩) hS0 ?_
            try simp only [Act.put, List.getElem_toArray, List.getElem_cons_succ, List.getElem_cons_zero, List.setIfInBounds_toArray, List.set_cons_zero, List.set_cons_succ]
            refine wpAnyU_take (i := 6) [7, 9, 10, 11, 13, 14, 15, 17, 18] rfl (by as_aux_lemma => kernel_rfl) (by as_aux_lemma => kernel_rfl) (by as_aux_lemma => kernel_rfl) (by as_aux_lemma => kernel_rfl) (by as_aux_lemma => kernel_rfl) (by as_aux_lemma => kernel_rfl) (fun _ _ _ h => h) (Or.inl ⟨by rfl, (by intro W hSW; (try dsimp only at hSW); (try go_split_ands); go_simp <;> with_reducible rfl)⟩) hS0 ?_
            try simp only [Act.put, List.getElem_toArray, List.getElem_cons_succ, List.getElem_cons_zero, List.setIfInBounds_toArray, List.set_cons_zero, List.set_cons_succ]
            refine wpAnyU_take (i := 7) [9, 10, 11, 13, 14, 15, 17, 18] rfl (by as_aux_lemma => kernel_rfl) (by as_aux_lemma => kernel_rfl) (by as_aux_lemma => kernel_rfl) (by as_aux_lemma => kernel_rfl) (by as_aux_lemma => kernel_rfl) (by as_aux_lemma => kernel_rfl) (fun _ _ _ h => h) (Or.inl ⟨by rfl, (by intro W hSW; (try dsimp only at hSW); (try go_split_ands); go_simp <;> with_reducible rfl)⟩) hS0 ?_
            try simp only [Act.put, List.getElem_toArray, List.getElem_cons_succ, List.getElem_cons_zero, List.setIfInBounds_toArray, List.set_cons_zero, List.set_cons_succ]
            refine wpAnyU_take (i := 8) [9, 10, 11, 13, 14, 15, 17, 18] rfl (by as_aux_lemma => kernel_rfl) (by as_aux_lemma => kernel_rfl) (by as_aux_lemma => kernel_rfl) (by as_aux_lemma => kernel_rfl) (by as_aux_lemma => kernel_rfl) (by as_aux_lemma => kernel_rfl) (fun _ _ _ h => h) (Or.inl ⟨by rfl, (by intro W hSW; (try dsimp only at hSW); (try go_split_ands); go_simp <;> with_reducible rfl)⟩) hS0 ?_
            try simp only [Act.put, List.getElem_toArray, List.getElem_cons_succ, List.getElem_cons_zero, List.setIfInBounds_toArray, List.set_cons_zero, List.set_cons_succ]
            refine wpAnyU_take (i := 9) [10, 11, 13, 14, 15, 17, 18] rfl (by as_aux_lemma => kernel_rfl) (by as_aux_lemma => kernel_rfl) (by as_aux_lemma => kernel_rfl) (by as_aux_lemma => kernel_rfl) (by as_aux_lemma => kernel_rfl) (by as_aux_lemma => kernel_rfl) (fun _ _ _ h => h) (Or.inl ⟨by rfl, (by intro W hSW; (try dsimp only at hSW); (try go_split_ands); go_simp <;> with_reducible rfl)⟩) hS0 ?_
            try simp only [Act.put, List.getElem_toArray, List.getElem_cons_succ, List.getElem_cons_zero, List.setIfInBounds_toArray, List.set_cons_zero, List.set_cons_succ]
            refine wpAnyU_take (i := 10) [11, 13, 14, 15, 17, 18] rfl (by as_aux_lemma => kernel_rfl) (by as_aux_lemma => kernel_rfl) (by as_aux_lemma => kernel_rfl) (by as_aux_lemma => kernel_rfl) (by as_aux_lemma => kernel_rfl) (by as_aux_lemma => kernel_rfl) (fun _ _ _ h => h) (Or.inl ⟨by rfl, (by intro W hSW; (try dsimp only at hSW); (try go_split_ands); go_simp <;> with_reducible rfl)⟩) hS0 ?_
            try simp only [Act.put, List.getElem_toArray, List.getElem_cons_succ, List.getElem_cons_zero, List.setIfInBounds_toArray, List.set_cons_zero, List.set_cons_succ]
            refine wpAnyU_take (i := 11) [13, 14, 15, 17, 18] rfl (by as_aux_lemma => kernel_rfl) (by as_aux_lemma => kernel_rfl) (by as_aux_lemma => kernel_rfl) (by as_aux_lemma => kernel_rfl) (by as_aux_lemma => kernel_rfl) (by as_aux_lemma => kernel_rfl) (fun _ _ _ h => h) (Or.inl ⟨by rfl, (by intro W hSW; (try dsimp only at hSW); (try go_split_ands); go_simp <;> with_reducible rfl)⟩) hS0 ?_
            try simp only [Act.put, List.getElem_toArray, List.getElem_cons_succ, List.getElem_cons_zero, List.setIfInBounds_toArray, List.set_cons_zero, List.set_cons_succ]
            refine wpAnyU_take (i := 12) [13, 14, 15, 17, 18] rfl (by as_aux_lemma => kernel_rfl) (by as_aux_lemma => kernel_rfl) (by as_aux_lemma => kernel_rfl) (by as_aux_lemma => kernel_rfl) (by as_aux_lemma => kernel_rfl) (by as_aux_lemma => kernel_rfl) (fun _ _ _ h => h) (Or.inl ⟨by rfl, (by intro W hSW; (try dsimp only at hSW); (try go_split_ands); go_simp <;> with_reducible rfl)⟩) hS0 ?_
            try simp only [Act.put, List.getElem_toArray, List.getElem_cons_succ, List.getElem_cons_zero, List.setIfInBounds_toArray, List.set_cons_zero, List.set_cons_succ]
            refine wpAnyU_take (i := 13) [14, 15, 17, 18] rfl (by as_aux_lemma => kernel_rfl) (by as_aux_lemma => kernel_rfl) (by as_aux_lemma => kernel_rfl) (by as_aux_lemma => kernel_rfl) (by as_aux_lemma => kernel_rfl) (by as_aux_lemma => kernel_rfl) (fun _ _ _ h => h) (Or.inl ⟨by rfl, (by intro W hSW; (try dsimp only at hSW); (try go_split_ands); go_simp <;> with_reducible rfl)⟩) hS0 ?_
            try simp only [Act.put, List.getElem_toArray, List.getElem_cons_succ, List.getElem_cons_zero, List.setIfInBounds_toArray, List.set_cons_zero, List.set_cons_succ]
            refine wpAnyU_take (i := 14) [15, 17, 18] rfl (by as_aux_lemma => kernel_rfl) (by as_aux_lemma => kernel_rfl) (by as_aux_lemma => kernel_rfl) (by as_aux_lemma => kernel_rfl) (by as_aux_lemma => kernel_rfl) (by as_aux_lemma => kernel_rfl) (fun _ _ _ h => h) (Or.inl ⟨by rfl, (by intro W hSW; (try dsimp only at hSW); (try go_split_ands); go_simp <;> with_reducible rfl)⟩) hS0 ?_
            try simp only [Act.put, List.getElem_toArray, List.getElem_cons_succ, List.getElem_cons_zero, List.setIfInBounds_toArray, List.set_cons_zero, List.set_cons_succ]
            refine wpAnyU_take (i := 15) [17, 18] rfl (by as_aux_lemma => kernel_rfl) (by as_aux_lemma => kernel_rfl) (by as_aux_lemma => kernel_rfl) (by as_aux_lemma => kernel_rfl) (by as_aux_lemma => kernel_rfl) (by as_aux_lemma => kernel_rfl) (fun _ _ _ h => h) (Or.inl ⟨by rfl, (by intro W hSW; (try dsimp only at hSW); (try go_split_ands); go_simp <;> with_reducible rfl)⟩) hS0 ?_
            try simp only [Act.put, List.getElem_toArray, List.getElem_cons_succ, List.getElem_cons_zero, List.setIfInBounds_toArray, List.set_cons_zero, List.set_cons_succ]
            refine wpAnyU_take (i := 16) [17, 18] rfl (by as_aux_lemma => kernel_rfl) (by as_aux_lemma => kernel_rfl) (by as_aux_lemma => kernel_rfl) (by as_aux_lemma => kernel_rfl) (by as_aux_lemma => kernel_rfl) (by as_aux_lemma => kernel_rfl) (fun _ _ _ h => h) (Or.inl ⟨by rfl, (by intro W hSW; (try dsimp only at hSW); (try go_split_ands); go_simp <;> with_reducible rfl)⟩) hS0 ?_
            try simp only [Act.put, List.getElem_toArray, List.getElem_cons_succ, List.getElem_cons_zero, List.setIfInBounds_toArray, List.set_cons_zero, List.set_cons_succ]
            refine wpAnyU_take (i := 17) [18] rfl (by as_aux_lemma => kernel_rfl) (by as_aux_lemma => kernel_rfl) (by as_aux_lemma => kernel_rfl) (by as_aux_lemma => kernel_rfl) (by as_aux_lemma => kernel_rfl) (by as_aux_lemma => kernel_rfl) (fun _ _ _ h => h) (Or.inl ⟨by rfl, (by intro W hSW; (try dsimp only at hSW); (try go_split_ands); go_simp <;> with_reducible rfl)⟩) hS0 ?_
            try simp only [Act.put, List.getElem_toArray, List.getElem_cons_succ, List.getElem_cons_zero, List.setIfInBounds_toArray, List.set_cons_zero, List.set_cons_succ]
            refine wpAnyU_take (i := 18) [] rfl (by as_aux_lemma => kernel_rfl) (by as_aux_lemma => kernel_rfl) (by as_aux_lemma => kernel_rfl) (by as_aux_lemma => kernel_rfl) (by as_aux_lemma => kernel_rfl) (by as_aux_lemma => kernel_rfl) (fun _ _ _ h => h) (Or.inl ⟨by rfl, (by intro W hSW; (try dsimp only at hSW); (try go_split_ands); go_simp <;> with_reducible rfl)⟩) hS0 ?_
            try simp only [Act.put, List.getElem_toArray, List.getElem_cons_succ, List.getElem_cons_zero, List.setIfInBounds_toArray, List.set_cons_zero, List.set_cons_succ]
            refine wpAnyU_done (by kernel_rfl) ?_ _
            clear hS0
            go_wp2
            refine bodyPost_ret (by simp [results, Try.results41, go_sem]; try rfl) rfl ?_
            exact ⟨by rw [HRV.out]; rfl, HK.out.2.2.2.2.trans ((below_drewN (Below.refl _ _) 1 : Below wr.heap.size wr wr.drew).mono HK.out.2.2.2.2.size)⟩
          · have hbb : (u == o) = false := by simp [he]
            clear c1
            go_wp2
            go_roundw
            case rel => exact ⟨k + 1, by rw [HWK.out], HK.out.2.2.1, by rw [HK.out.1, HK.out.2.1, if_neg he], HK.out.2.2.2.1⟩
            case measure => exact meas_up HWK.out HK.out.2.2.1
        · have hkk : ¬ (k : Int) < (qn : Int) := by omega
          have hno : klook x.qs o = none := by
            rw [hkl, List.drop_of_length_le (by rw [HG.out.2.2.1]; omega)]; rfl
          have HN : Hid (R = waitP (X.drop (i + 1)) o ∧ Below wb.heap.size wb wr) := by
            have h9 := HG.out.2.2.2.2.1
            rw [hno] at h9
            exact ⟨h9, hb⟩
          clear hkl hb hbw hkn hbx hlt hno
          go_wp2
          go_roundw
          case rel => exact ⟨i + 1, by rw [HWJ.out], HG.out.2.2.2.2.2.1, HN.out.1, HN.out.2⟩
          case measure => exact meas_up HWJ.out HG.out.2.2.2.2.2.1
    · have hii : ¬ (i : Int) < (n : Int) := by omega
      have hfin : Hid (R = none) := by
        show _ = _
        rw [hRi, List.drop_of_length_le (by rw [HX.out.2.1]; omega)]; rfl
      have HB := Lib.hid hbw
      clear hRi hb hbx hbw hlt hin
      go_wp2
      refine bodyPost_ret (by simp [results, Try.results41, go_sem]; try rfl) rfl ?_
      exact ⟨by rw [hfin.out]; rfl, HB.out⟩
end Mun
