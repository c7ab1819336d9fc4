/- Contracts of of, copied, New. -/
import Derived.Test.YtjfepmohoijalaaP7
set_option maxRecDepth 100000
set_option linter.unusedVariables false
set_option linter.unusedSimpArgs false
namespace Mun
open Go Go.RowKit
open Go.Proofs

theorem one_set {w : World} {b : Nat} {x v : Value} {t : TypeId} (h : w.heap[b]? = some (.cells #[x] t (0, 0))) : (w.setCell ⟨b, 0, none⟩ v).heap[b]? = some (.cells #[v] t (0, 0)) := by
  simp [World.setCell, Array.getElem?_modify, h]
theorem one_cell {w : World} {b : Nat} {x : Value} {t : TypeId} (h : w.heap[b]? = some (.cells #[x] t (0, 0))) : w.cell? ⟨b, 0, none⟩ = some x := cell_of_row w b 0 _ _ _ h
theorem one_free {w : World} {b : Nat} {x : Value} {t : TypeId} (h : w.heap[b]? = some (.cells #[x] t (0, 0))) : w.frozen? ⟨b, 0, none⟩ = false := by simp [World.frozen?, h]
theorem one_below {w w' : World} {b : Nat} {x : Value} {t : TypeId} (h : w.heap[b]? = some (.cells #[x] t (0, 0))) (hb : Below w.heap.size w w') : w'.heap[b]? = some (.cells #[x] t (0, 0)) :=
  (hb.block b (Array.getElem?_eq_some_iff.1 h).1).trans h

theorem pof_yes {F : Foot} (w : World) (v : Value) (p : List UInt8) (hv : RdB F w v p) (hg : GoodP p) :
    Calls Try.prog 41 #[v] w fun e w' => e = .returned (.tuple #[.agg #[v], .int .i64 0]) ∧ Below w.heap.size w w' := by
  have hgo := good_any (w.alloc (.cells #[.slice none 0 0] 96)) v p (hv.alloc _)
  rw [goodB_true hg] at hgo
  have hbox := heap_alloc_new w (.cells #[.slice none 0 0] 96)
  obtain ⟨a, n, c, rfl, HN, -, -⟩ := hv.formN
  have HG := Lib.hid hgo
  clear hgo hv hg HN
  go_enter Try.func41, Try.ntmps41
  go_wp2_with fail
  refine HG.out.mono ?_
  rintro e w2 ⟨rfl, hb⟩
  have hx := one_below hbox hb
  have hf := one_free hx
  have hc0 := one_cell hx
  have hc := one_cell (one_set (v := .slice a n c) hx)
  have HB := Lib.hid hb
  clear hb hbox hx
  go_wp2
  exact bodyPost_ret (v := .tuple #[.agg #[.slice a n c], .int .i64 0]) (by simp [results, Try.results41, go_sem, hc]) rfl ⟨rfl, (((Below.refl _ _).alloc (Nat.le_refl _) _).trans (HB.out.mono (by simp))).setCell (Nat.le_refl _) _⟩

theorem pof_no {F : Foot} (w : World) (v : Value) (p : List UInt8) (hv : RdB F w v p) (hg : ¬ GoodP p) :
    Calls Try.prog 41 #[v] w fun e w' => e = .returned (.tuple #[.agg #[.slice none 0 0], .int .i64 4]) ∧ Below w.heap.size w w' := by
  have hgo := good_any (w.alloc (.cells #[.slice none 0 0] 96)) v p (hv.alloc _)
  rw [goodB_false hg] at hgo
  have hbox := heap_alloc_new w (.cells #[.slice none 0 0] 96)
  obtain ⟨a, n, c, rfl, HN, -, -⟩ := hv.formN
  have HG := Lib.hid hgo
  clear hgo hv hg HN
  go_enter Try.func41, Try.ntmps41
  go_wp2_with fail
  refine HG.out.mono ?_
  rintro e w2 ⟨rfl, hb⟩
  have hx := one_below hbox hb
  have hf := one_free hx
  have hc0 := one_cell hx
  have hc := one_cell (one_set (v := .slice none 0 0) hx)
  have HB := Lib.hid hb
  clear hb hbox hx
  go_wp2
  exact bodyPost_ret (v := .tuple #[.agg #[.slice none 0 0], .int .i64 4]) (by simp [results, Try.results41, go_sem, hc]) rfl ⟨rfl, (((Below.refl _ _).alloc (Nat.le_refl _) _).trans (HB.out.mono (by simp))).setCell (Nat.le_refl _) _⟩

theorem copied_no {F : Foot} (w : World) (v : Value) (p : List UInt8) (hv : RdB F w v p) (hg : ¬ GoodP p) :
    Calls Try.prog 44 #[v] w fun e w' => e = .returned (.tuple #[.agg #[.slice none 0 0], .int .i64 4]) ∧ Below w.heap.size w w' := by
  have hgo := pof_no (w.alloc (.cells #[.slice none 0 0] 96)) v p (hv.alloc _) hg
  have hbox := heap_alloc_new w (.cells #[.slice none 0 0] 96)
  obtain ⟨a, n, c, rfl, HN, -, -⟩ := hv.formN
  have HG := Lib.hid hgo
  clear hgo hv hg HN
  go_enter Try.func44, Try.ntmps44
  go_wp2_with fail
  refine HG.out.mono ?_
  rintro e w2 ⟨rfl, hb⟩
  have hx := (one_below hbox hb)
  have hlt : w.heap.size < w2.heap.size := by have := hb.size; simp at this; omega
  have hx2 := one_below (one_set (v := .slice none 0 0) hx) ((Below.refl _ _).alloc (Nat.le_refl _) (.cells #[.slice none 0 0] 96))
  have hB3 : Below w.heap.size w ((w2.setCell ⟨w.heap.size, 0, none⟩ (.slice none 0 0)).alloc (.cells #[.slice none 0 0] 96)) :=
    ((((Below.refl _ _).alloc (Nat.le_refl _) _).trans (hb.mono (by simp))).setCell (Nat.le_refl _) _).alloc (by simp [World.setCell]; omega) _
  have hf := one_free hx
  have hc0 := one_cell hx
  have hc := one_cell hx2
  have HB := Lib.hid hB3
  clear hb hbox hx hx2 hB3
  go_wp2
  exact bodyPost_ret (v := .tuple #[.agg #[.slice none 0 0], .int .i64 4]) (by simp [results, Try.results44, go_sem, hc]) rfl ⟨rfl, HB.out⟩

theorem copied_yes {F : Foot} (w : World) (v : Value) (p : List UInt8) (hv : RdB F w v p) (hg : GoodP p) :
    Calls Try.prog 44 #[v] w fun e w' => ∃ g, e = .returned (.tuple #[.agg #[PV g], .int .i64 0]) ∧ PgAt w' g p ∧ w.heap.size ≤ g ∧ Below w.heap.size w w' := by
  have hgo := pof_yes (w.alloc (.cells #[.slice none 0 0] 96)) v p (hv.alloc _) hg
  have hbox := heap_alloc_new w (.cells #[.slice none 0 0] 96)
  have HV := Lib.hid hv
  have HP := Lib.hid hg.len
  obtain ⟨a, c, rfl, -, -⟩ := hv.form
  have hp := hg.len
  rw [hp] at hgo HV ⊢
  have HG := Lib.hid hgo
  clear hgo hv hg hp
  go_enter Try.func44, Try.ntmps44
  go_wp2_with fail
  refine HG.out.mono ?_
  rintro e w2 ⟨rfl, hb⟩
  have hx := (one_below hbox hb)
  have hlt : w.heap.size < w2.heap.size := by have := hb.size; simp at this; omega
  have hB2 : Below w.heap.size w w2 := ((Below.refl _ _).alloc (Nat.le_refl _) _).trans (hb.mono (by simp))
  have hx3 := one_below hx ((Below.refl _ _).alloc (Nat.le_refl _) (.cells #[.slice a 512 c] 96))
  have hs3 : (w2.alloc (.cells #[.slice a 512 c] 96)).cell? ⟨w2.heap.size, 0, none⟩ = some (.slice a 512 c) := one_cell (heap_alloc_new w2 _)
  have hv3 : RdB F (w2.alloc (.cells #[.slice a 512 c] 96)) (.slice a 512 c) p := RdB.alloc (RdB.below HV.out hB2) _
  have hB3 : Below w.heap.size w (w2.alloc (.cells #[.slice a 512 c] 96)) := hB2.alloc (by omega) _
  obtain ⟨w3, hw3⟩ : ∃ w3, w2.alloc (.cells #[.slice a 512 c] 96) = w3 := ⟨_, rfl⟩
  rw [hw3] at hx3 hs3 hv3 hB3
  have hmk : (Instr.makeSlice 31 (.int .i64 0) (.int .i64 512)).run Try.prog w3.drew = .ok (.slice (some ⟨w3.heap.size, 0, none⟩) 0 512) (w3.drew.alloc (bobj (zer 512))) := make_bytes0 512 (by decide) w3.drew
  have hcp := copied_bytes (ty := 31) (w := w3.drew) (RdB.drewN hv3 1) (by rw [HP.out]; decide)
  rw [HP.out] at hcp
  change (Builtin.append_ #[31, 31] 31 #[.slice (some ⟨w3.heap.size, 0, none⟩) 0 512, .slice a 512 c]).run Try.prog (w3.drew.alloc (bobj (zer 512))) = _ at hcp
  have HX := Lib.hid (And.intro hx3 (And.intro hs3 hB3))
  have HCP := Lib.hid hcp
  have hS0 : w3.drew.cell? ⟨w2.heap.size, 0, none⟩ = some (.slice a 512 c) := hs3
  clear hb hbox hx hB2 hx3 hs3 hv3 hB3 hcp
  go_wp2
  have hx4 := one_below HX.out.1 ((Below.refl _ _).alloc (Nat.le_refl _) (bobj p))
  have hfr := one_free hx4
  have hc00 := one_cell hx4
  have hx5 := one_set (v := .slice (some ⟨w3.heap.size, 0, none⟩) 512 512) hx4
  have hS5 : ((w3.alloc (bobj p)).setCell ⟨w.heap.size, 0, none⟩ (.slice (some ⟨w3.heap.size, 0, none⟩) 512 512)).drew.cell? ⟨w2.heap.size, 0, none⟩ = some (.slice a 512 c) := by
    have h1 := box_chg (F := fun _ => False) (F' := fun _ => False) (W := w3) (W' := w3.alloc (bobj p)) hS0 (Chg.of_below ((Below.refl _ _).alloc (Nat.le_refl _) _) _) (fun x => x)
    have h2 : Chg (fun k => k = w.heap.size) (fun k => k = w.heap.size) (w3.alloc (bobj p)) ((w3.alloc (bobj p)).setCell ⟨w.heap.size, 0, none⟩ (.slice (some ⟨w3.heap.size, 0, none⟩) 512 512)) :=
      ⟨rfl, rfl, rfl, by simp [World.setCell], fun k _ hk => Below.heap_setCell _ _ _ _ hk, fun _ h => .inl h⟩
    have h3 := box_chg h1 h2 (fun h => by have : w2.heap.size = w.heap.size := h; omega)
    exact h3
  have hpg : PgAt ((w3.alloc (bobj p)).setCell ⟨w.heap.size, 0, none⟩ (.slice (some ⟨w3.heap.size, 0, none⟩) 512 512)) w3.heap.size p :=
    ⟨(Below.heap_setCell _ _ _ _ (by have := (Array.getElem?_eq_some_iff.1 HX.out.1).1; simp; omega)).trans (heap_alloc_new w3 _), HP.out⟩
  have hBf : Below w.heap.size w ((w3.alloc (bobj p)).setCell ⟨w.heap.size, 0, none⟩ (.slice (some ⟨w3.heap.size, 0, none⟩) 512 512)) := (HX.out.2.2.alloc HX.out.2.2.size _).setCell (Nat.le_refl _) _
  have hcf := one_cell hx5
  have HF := Lib.hid (And.intro hpg (And.intro hBf HX.out.2.2.size))
  clear hx4 hx5 hpg hBf
  go_region_held_law (fun W => W.cell? ⟨w2.heap.size, 0, none⟩ = some (.slice a 512 c))
    (first | exact hS0 | exact hS5 | exact box_chg hS0 (Chg.of_below ((Below.refl _ _).alloc (Nat.le_refl _) _) (fun _ => False)) (fun x => x))
    ((refine step_append_eq rfl rfl HCP.out rfl rfl ?_))
  go_wp2
  exact bodyPost_ret (v := .tuple #[.agg #[.slice (some ⟨w3.heap.size, 0, none⟩) 512 512], .int .i64 0]) (by simp [results, Try.results44, go_sem, hcf]) rfl ⟨_, rfl, HF.out.1, HF.out.2.2, below_drewN HF.out.2.1 1⟩
end Mun
