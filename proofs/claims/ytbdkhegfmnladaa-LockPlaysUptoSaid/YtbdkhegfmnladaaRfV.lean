/- The reference's Victim. -/
import Derived.Test.YtbdkhegfmnladaaRfJ
set_option maxRecDepth 100000
set_option linter.unusedVariables false
set_option linter.unusedSimpArgs false
namespace Mun
open Go Go.RowKit
open Go.Proofs

/-- the greatest so far -/
structure VcI (A : AS) (o : Int) (out : List (Int × Int)) (i : Nat) (v : Int) : Prop where
  ge : o ≤ v
  ok : ∀ a ∈ out.take i, A.Reach a.1 o → a.1 ≤ v
  on : v = o ∨ (A.Reach o v ∧ A.Reach v o)
section
variable {A : AS} {o : Int} {out : List (Int × Int)} {i : Nat} {v : Int}
theorem VcI.start (A : AS) (o : Int) (out : List (Int × Int)) : VcI A o out 0 o := ⟨Int.le_refl _, fun a h => by simp at h, .inl rfl⟩
theorem VcI.no (h : VcI A o out i v) (hi : i < out.length) (hn : ¬ A.Reach out[i].1 o) : VcI A o out (i + 1) v := by
  refine ⟨h.ge, fun a ha hr => ?_, h.on⟩
  rw [List.take_add_one, List.getElem?_eq_getElem hi, Option.toList_some] at ha
  rcases List.mem_append.1 ha with h9 | h9
  · exact h.ok a h9 hr
  · rw [List.mem_singleton] at h9; rw [h9] at hr; exact absurd hr hn
theorem VcI.yes (h : VcI A o out i v) (hi : i < out.length) (h1 : A.Reach out[i].1 o) (h2 : A.Reach o out[i].1) : VcI A o out (i + 1) (max v out[i].1) := by
  refine ⟨by have := h.ge; omega, fun a ha hr => ?_, ?_⟩
  · rw [List.take_add_one, List.getElem?_eq_getElem hi, Option.toList_some] at ha
    rcases List.mem_append.1 ha with h9 | h9
    · have := h.ok a h9 hr; omega
    · rw [List.mem_singleton] at h9; rw [h9]; omega
  · rcases Int.le_total v out[i].1 with h9 | h9
    · rw [Int.max_eq_right h9]; exact .inr ⟨h2, h1⟩
    · rw [Int.max_eq_left h9]; exact h.on
theorem VcI.done (h : VcI A o out i v) (hi : out.length ≤ i) (hm : ∀ u, u ∈ out.map (·.1) ↔ A.Reach o u) (hoo : A.Reach o o) : A.Victim o v true := by
  refine .inr ⟨rfl, hoo, ?_, ?_, fun u h1 h2 => ?_⟩
  · rcases h.on with rfl | h9
    · exact hoo
    · exact h9.1
  · rcases h.on with rfl | h9
    · exact hoo
    · exact h9.2
  · obtain ⟨a, ha, rfl⟩ := List.mem_map.1 ((hm u).2 h1)
    exact h.ok a (by rw [List.take_of_length_le hi]; exact ha) h2
end
/-- within Victim's loop -/
structure VcR (w : World) (box : Obj) (wr : World) (v : Value) (out : List (Int × Int)) : Prop where
  bl : Below w.heap.size w wr
  bx : wr.heap[w.heap.size]? = some box
  row : wr.ownsRow (w.heap.size + 1) 29 1 v out.length (ov out)
theorem VcR.below {w wr w' : World} {box : Obj} {v : Value} {out : List (Int × Int)} (h : VcR w box wr v out) (hb : Below wr.heap.size wr w') : VcR w box w' v out :=
  ⟨h.bl.trans (hb.mono h.bl.size), (hb.block _ (lt_of_block h.bx)).trans h.bx, rowU_keep h.row (fun k hk => hb.block k (h.row.lt k hk).2)⟩

set_option maxHeartbeats 4000000 in
theorem r14_victim {F : Foot} (w : World) (v : Value) (X : List LX) (A : AS) (h : TabF F w v X) (hr : RelX X A) (hok : A.Ok) (hsz : XSz X 1048576) (o : Int) :
    Calls Try.prog 49 #[.agg #[v], .int .u64 o] w (ViPost w A o) := by
  obtain ⟨ha, hc, rfl, -, -⟩ := h.row.form
  obtain ⟨n, hn⟩ : ∃ n, X.length = n := ⟨_, rfl⟩
  rw [hn] at h ⊢
  have hre : ∀ W, Below w.heap.size w W → ∀ u, Calls Try.prog 60 #[.agg #[.slice ha n hc], .int .u64 u] W (RxPost W A u) := fun W hW u => r14_reaches W _ X A (h.below hW) hr hok hsz u
  obtain ⟨wb, hwb⟩ : ∃ wb, w.alloc (.cells #[.slice ha n hc] 51) = wb := ⟨_, rfl⟩
  have hbb : Below w.heap.size w wb := by rw [← hwb]; exact (Below.refl _ _).alloc (Nat.le_refl _) _
  have kb : wb.heap[w.heap.size]? = some (.cells #[.slice ha n hc] 51 (0, 0)) := by rw [← hwb]; exact heap_alloc_new w _
  have z0 : wb.cell? ⟨w.heap.size, 0, none⟩ = some (.slice ha n hc) := cell_of_row wb w.heap.size 0 _ _ _ kb
  have HRE := Lib.hid hre
  have HRE0 := Lib.hid (hre wb hbb o)
  have HW := Lib.hid (And.intro hbb kb)
  clear h hn hre hbb kb hr hok hsz
  go_enter Try.func49, Try.ntmps49
  go_wp2_with (first | (refine wpList_load_row rfl _ _ rfl w.heap.size rfl _ _ (0, 0) _ HW.out.2 Try.underlying51 rfl infoT ?_) | fail)
  refine HRE0.out.mono ?_
  rintro e w1 ⟨lv, out, rfl, hrow1, hmem, hlen, hb1⟩
  have hR1 : VcR w (.cells #[.slice ha n hc] 51 (0, 0)) w1 lv out :=
    ⟨HW.out.1.trans (hb1.mono HW.out.1.size), (hb1.block _ (lt_of_block HW.out.2)).trans HW.out.2, rowU_mono' hrow1 (by have := lt_of_block HW.out.2; omega)⟩
  obtain ⟨la, lc, hlv, -, -⟩ := (RdV.of_own (F := NoF) hrow1 (fun _ _ => noF _)).form
  obtain ⟨ln, hln⟩ : ∃ ln, out.length = ln := ⟨_, rfl⟩
  rw [hln] at hlv hlen
  subst hlv
  have hin := r14_in w1 _ out (RdV.of_own (F := NoF) hrow1 (fun _ _ => noF _)) (by omega) o
  obtain ⟨b, hbd⟩ : ∃ b, decide (o ∈ out.map (·.1)) = b := ⟨_, rfl⟩
  rw [hbd] at hin
  have HIN := Lib.hid hin
  have H1 := Lib.hid (And.intro hR1 (And.intro hmem (And.intro hlen (And.intro hln hbd))))
  clear hR1 hmem hlen hln hbd hin hrow1 hb1 HRE0 z0 hwb
  go_wp2_with fail
  refine HIN.out.mono ?_
  rintro e w2 ⟨rfl, hb2⟩
  have hR2 := H1.out.1.below hb2
  have H2 := Lib.hid hR2
  clear hb2 hR2 HIN
  cases b with
  | false =>
    have hno : Hid (¬ A.Reach o o) := fun h9 => by
      have h8 := of_decide_eq_false H1.out.2.2.2.2
      exact h8 ((H1.out.2.1 o).2 h9)
    go_wp2
    refine bodyPost_ret (by simp [results, Try.results49, go_sem]; try rfl) rfl ?_
    exact ⟨0, false, rfl, H2.out.bl, .inl ⟨rfl, rfl, hno.out⟩⟩
  | true =>
    have hoo : Hid (A.Reach o o) := (H1.out.2.1 o).1 (of_decide_eq_true H1.out.2.2.2.2)
    go_wp2_with fail
    go_loopw [7, 8] (fun tv iv wr => ∃ (i : Nat) (t : Int), iv = .int .i64 i ∧ tv = .int .u64 t ∧ i ≤ ln ∧ VcI A o out i t ∧ VcR w (.cells #[.slice ha n hc] 51 (0, 0)) wr (.slice la ln lc) out) (fun _ iv _ => ln - (Go.RowKit.intOf iv).toNat)
    case atStart => exact ⟨0, o, rfl, rfl, Nat.zero_le _, VcI.start A o out, H2.out⟩
    case round =>
      obtain ⟨i, t, rfl, rfl, hin, hI, hR⟩ := hrel
      by_cases hlt : i < ln
      · have hil : i < out.length := by rw [H1.out.2.2.2.1]; exact hlt
        have hbd : Below wr.heap.size wr wr.drew := below_drewN (Below.refl _ _) 1
        have hRd := hR.below hbd
        have htr := RdV.of_own (F := NoF) hRd.row (fun _ _ => noF _)
        rw [H1.out.2.2.2.1] at htr
        obtain ⟨tg, toff, rfl, hco⟩ := ov_cell htr H1.out.2.2.2.1 i hil
        have hc0 := hco wr.drew (Below.refl _ _)
        have hmu : A.Reach o out[i].1 := (H1.out.2.1 _).1 (List.mem_map_of_mem (List.getElem_mem hil))
        have hyes := fun h9 => hI.yes hil h9 hmu
        have hno := fun h9 => hI.no hil h9
        obtain ⟨u, hu⟩ : ∃ u, out[i].1 = u := ⟨_, rfl⟩
        rw [hu] at hc0 hyes hno
        have hii : (i : Int) < (ln : Int) := by omega
        have hi0 : (0 : Int) ≤ (i : Int) := by omega
        have HWJ : Hid (wrap64 ((i : Int) + 1) = ((i + 1 : Nat) : Int)) := by show _ = _; have := H1.out.2.2.1; unfold wrap64; omega
        have hS0 : wr.drew.cell? ⟨w.heap.size, 0, none⟩ = some (.slice ha n hc) ∧ wr.drew.cell? ⟨tg, toff + i, none⟩ = some (.int .u64 u) := ⟨cell_of_row wr.drew w.heap.size 0 _ _ _ hRd.bx, hc0⟩
        have HC := Lib.hid hRd
        have HK := Lib.hid (And.intro hyes (And.intro hno hlt))
        clear hR hI hil htr hco hc0 hmu hyes hno hu hRd hlt hin hbd
        go_upto_region 8 with (fail)
        refine wp_region_U (fun W => W.cell? ⟨w.heap.size, 0, none⟩ = some (.slice ha n hc) ∧ W.cell? ⟨tg, toff + i, none⟩ = some (.int .u64 u)) [] (by kernel_rfl) ?_
        refine wpAnyU_take (i := 0) [5, 7] rfl (by as_aux_lemma => kernel_rfl) (by as_aux_lemma => kernel_rfl) (by as_aux_lemma => kernel_rfl) (by as_aux_lemma => kernel_rfl) (by as_aux_lemma => kernel_rfl) (by as_aux_lemma => kernel_rfl) (fun _ _ _ h => h) (Or.inl ⟨by rfl, (by intro W hSW; (try dsimp only at hSW); (try go_split_ands); go_simp <;> with_reducible rfl)⟩) hS0 ?_
        try simp only [Act.put, List.getElem_toArray, List.getElem_cons_succ, List.getElem_cons_zero, List.setIfInBounds_toArray, List.set_cons_zero, List.set_cons_succ]
        refine wpAnyU_take (i := 1) [3, 4, 5, 7] rfl (by as_aux_lemma => kernel_rfl) (by as_aux_lemma => kernel_rfl) (by as_aux_lemma => kernel_rfl) (by as_aux_lemma => kernel_rfl) (by as_aux_lemma => kernel_rfl) (by as_aux_lemma => kernel_rfl) (fun _ _ _ h => h) (Or.inl ⟨by rfl, (by intro W hSW; (try dsimp only at hSW); (try go_split_ands); go_simp <;> with_reducible rfl)⟩) hS0 ?_
        try simp only [Act.put, List.getElem_toArray, List.getElem_cons_succ, List.getElem_cons_zero, List.setIfInBounds_toArray, List.set_cons_zero, List.set_cons_succ]
        refine wpAnyU_take (i := 2) [3, 4, 5, 7] rfl (by as_aux_lemma => kernel_rfl) (by as_aux_lemma => kernel_rfl) (by as_aux_lemma => kernel_rfl) (by as_aux_lemma => kernel_rfl) (by as_aux_lemma => kernel_rfl) (by as_aux_lemma => kernel_rfl) (fun _ _ _ h => h) (Or.inl ⟨by rfl, (by intro W hSW; (try dsimp only at hSW); (try go_split_ands); go_simp <;> with_reducible rfl)⟩) hS0 ?_
        try simp only [Act.put, List.getElem_toArray, List.getElem_cons_succ, List.getElem_cons_zero, List.setIfInBounds_toArray, List.set_cons_zero, List.set_cons_succ]
        refine wpAnyU_take (i := 3) [4, 5, 7] rfl (by as_aux_lemma => kernel_rfl) (by as_aux_lemma => kernel_rfl) (by as_aux_lemma => kernel_rfl) (by as_aux_lemma => kernel_rfl) (by as_aux_lemma => kernel_rfl) (by as_aux_lemma => kernel_rfl) (fun _ _ _ h => h) (Or.inl ⟨by rfl, (by intro W hSW; (try dsimp only at hSW); (try go_split_ands); go_simp <;> with_reducible rfl)⟩) hS0 ?_
        try simp only [Act.put, List.getElem_toArray, List.getElem_cons_succ, List.getElem_cons_zero, List.setIfInBounds_toArray, List.set_cons_zero, List.set_cons_succ]
        refine wpAnyU_take (i := 4) [5, 7] rfl (by as_aux_lemma => kernel_rfl) (by as_aux_lemma => kernel_rfl) (by as_aux_lemma => kernel_rfl) (by as_aux_lemma => kernel_rfl) (by as_aux_lemma => kernel_rfl) (by as_aux_lemma => kernel_rfl) (fun _ _ _ h => h) (Or.inl ⟨by rfl, (by intro W hSW; (try dsimp only at hSW); (try go_split_ands); go_simp <;> with_reducible rfl)⟩) hS0 ?_
        try simp only [Act.put, List.getElem_toArray, List.getElem_cons_succ, List.getElem_cons_zero, List.setIfInBounds_toArray, List.set_cons_zero, List.set_cons_succ]
        refine wpAnyU_take (i := 6) [7] rfl (by as_aux_lemma => kernel_rfl) (by as_aux_lemma => kernel_rfl) (by as_aux_lemma => kernel_rfl) (by as_aux_lemma => kernel_rfl) (by as_aux_lemma => kernel_rfl) (by as_aux_lemma => kernel_rfl) (fun _ _ _ h => h) (Or.inl ⟨by rfl, (by intro W hSW; (try dsimp only at hSW); (try go_split_ands); go_simp <;> with_reducible rfl)⟩) hS0 ?_
        try simp only [Act.put, List.getElem_toArray, List.getElem_cons_succ, List.getElem_cons_zero, List.setIfInBounds_toArray, List.set_cons_zero, List.set_cons_succ]
        refine wpAnyU_one (i := 5) (by kernel_rfl) rfl (fun K hK => ?_)
        go_simp
        go_at_call 60
        (with_reducible refine (HRE.out _ HC.out.bl u).mono ?_)
        rintro e w6 ⟨sv, out6, rfl, hrow6, hmem6, hlen6, hb6⟩
        have hR6 := HC.out.below hb6
        have hS6 : w6.cell? ⟨w.heap.size, 0, none⟩ = some (.slice ha n hc) ∧ w6.cell? ⟨tg, toff + i, none⟩ = some (.int .u64 u) := ⟨cell_of_row w6 w.heap.size 0 _ _ _ hR6.bx, (World.cell?_of_block (hb6.block tg (World.block_lt_of_cell? _ _ hS0.2))).trans hS0.2⟩
        have hin6 := r14_in w6 _ out6 (RdV.of_own (F := NoF) hrow6 (fun _ _ => noF _)) (by omega) o
        have hb6i : (decide (o ∈ out6.map (·.1)) = true ↔ A.Reach u o) := by rw [decide_eq_true_iff]; exact hmem6 o
        obtain ⟨b6, hbd6⟩ : ∃ b, decide (o ∈ out6.map (·.1)) = b := ⟨_, rfl⟩
        rw [hbd6] at hin6 hb6i
        have HIN6 := Lib.hid hin6
        have H6 := Lib.hid (And.intro hR6 hb6i)
        clear hrow6 hmem6 hlen6 hb6 hR6 hin6 hb6i hbd6 HC
        refine hK.out _ _ (fun _ => hS6) (fun _ => ?_)
        clear hK K
        try simp only [Act.put, List.getElem_toArray, List.getElem_cons_succ, List.getElem_cons_zero, List.setIfInBounds_toArray, List.set_cons_zero, List.set_cons_succ]
        refine wpAnyU_one (i := 7) (by kernel_rfl) rfl (fun K hK => ?_)
        go_simp
        go_at_call 61
        (with_reducible refine HIN6.out.mono ?_)
        rintro e w7 ⟨rfl, hb7⟩
        have hR7 := H6.out.1.below hb7
        have hS7 : w7.cell? ⟨w.heap.size, 0, none⟩ = some (.slice ha n hc) ∧ w7.cell? ⟨tg, toff + i, none⟩ = some (.int .u64 u) := ⟨cell_of_row w7 w.heap.size 0 _ _ _ hR7.bx, (World.cell?_of_block (hb7.block tg (World.block_lt_of_cell? _ _ hS6.2))).trans hS6.2⟩
        have c7 := hS7.2
        have H7 := Lib.hid (And.intro hR7 H6.out.2)
        clear hR7 hb7 HIN6 H6
        refine hK.out _ _ (fun _ => hS7) (fun _ => ?_)
        clear hK K
        try simp only [Act.put, List.getElem_toArray, List.getElem_cons_succ, List.getElem_cons_zero, List.setIfInBounds_toArray, List.set_cons_zero, List.set_cons_succ]
        refine wpAnyU_done (by kernel_rfl) ?_ _
        clear hS0 hS6 hS7
        cases b6 with
        | true =>
          have hI' := HK.out.1 (H7.out.2.1 rfl)
          have HI := Lib.hid hI'
          clear hI'
          go_wp2
          go_roundw
          case rel => exact ⟨i + 1, max t u, by rw [HWJ.out], by first | rfl | (simp only [Int.max_def]; split <;> rfl), HK.out.2.2, HI.out, H7.out.1⟩
          case measure => exact meas_up HWJ.out HK.out.2.2
        | false =>
          have hI' := HK.out.2.1 (fun h9 => by have h8 := H7.out.2.2 h9; cases h8)
          have HI := Lib.hid hI'
          clear hI' c7
          go_wp2
          go_roundw
          case rel => exact ⟨i + 1, t, by rw [HWJ.out], rfl, HK.out.2.2, HI.out, H7.out.1⟩
          case measure => exact meas_up HWJ.out HK.out.2.2
      · have hii : ¬ (i : Int) < (ln : Int) := by omega
        have hd := hI.done (by rw [H1.out.2.2.2.1]; omega) H1.out.2.1 hoo.out
        have HF := Lib.hid (And.intro hd hR.bl)
        clear hI hR hlt hin hd
        go_wp2
        refine bodyPost_ret (by simp [results, Try.results49, go_sem]; try rfl) rfl ?_
        exact ⟨t, true, rfl, HF.out.2, HF.out.1⟩
end Mun
