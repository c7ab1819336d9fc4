/- awake of the laws on pages: a page with a cell. -/
import Derived.Test.YtndeebchiodimaaP14
import Derived.Test.YtndeebchiodimaaPageI
set_option maxRecDepth 100000
set_option linter.unusedVariables false
set_option linter.unusedSimpArgs false
namespace Mun
open Go Go.RowKit
open Go.Proofs

theorem BytesOut.at_ {w w' : World} {c : PBytes} {e : Ending} (h : BytesOut w c e w') (n : Nat) (hn : c.length = n) : ∃ g, e = .returned (.tuple #[.slice (some ⟨g, 0, none⟩) n n, .int .i64 0]) ∧ w'.heap[g]? = some (bobj c) ∧ w.heap.size ≤ g ∧ Below w.heap.size w w' := by
  subst hn
  exact h
theorem bobj_rdAt {F : Foot} {w : World} {g : Nat} {c : PBytes} (h : w.heap[g]? = some (bobj c)) (n : Nat) (hn : c.length = n) (hm : n ≤ maxLen) (hF : ¬ F g) : RdB F w (.slice (some ⟨g, 0, none⟩) n n) c := by
  subst hn
  refine ⟨by simp [bv], some ⟨g, 0, none⟩, c.length, rfl, Nat.le_refl _, hm, by simp, fun _ => ⟨g, 0, _, _, _, rfl, hF, h, ?_⟩⟩
  simp only [List.drop_zero]
  rw [List.take_of_length_le (by simp [bv])]

set_option maxHeartbeats 1000000 in
theorem awake5 (w : World) : Calls Try.prog 11 #[] w fun e w' => e = .returned (.bool true) ∧ Below w.heap.size w w' := by
  have hnew := new_yes w 1 (by decide)
  have hins := ins_facts (new_good 1) (i := 0) (Nat.zero_le _) (c := [97, 98]) (by rw [new_free]; decide)
  obtain ⟨x, hx⟩ : ∃ x, insP (newP 1) 0 [97, 98] = x := ⟨_, rfl⟩
  rw [hx] at hins
  have HX := Lib.hid hx
  have HI := Lib.hid hins
  have HN := Lib.hid hnew
  clear hnew hx hins
  go_enter Try.func11, Try.ntmps11
  go_wp2_with fail
  refine HN.out.mono ?_
  rintro e w1 ⟨g, rfl, hpg, hgs, hb⟩
  have hcv := conv_bytes w1 #[.int .u8 97, .int .u8 98] w1.heap.size 2 2 rfl
  have hlit : RdB NoF (w1.alloc (.cells #[.int .u8 97, .int .u8 98] 5 (2, 3))) (.slice (some ⟨w1.heap.size, 0, none⟩) 2 2) [97, 98] := lit_rd w1 _ _ _ (by rfl) _ _ _ rfl rfl rfl (by decide) (noF _)
  have hb2 : Below w1.heap.size w1 (w1.alloc (.cells #[.int .u8 97, .int .u8 98] 5 (2, 3))) := (Below.refl _ _).alloc (Nat.le_refl _) _
  have hpg2 : PgAt (w1.alloc (.cells #[.int .u8 97, .int .u8 98] 5 (2, 3))) g (newP 1) := hpg.below hb2
  have hi := insert_yes (F := NoF) _ _ _ _ _ 0 (hpg2.rd (noF _)) hlit (new_good 1) (Nat.zero_le _) (by rw [new_free]; decide)
  rw [HX.out] at hi
  have HB := Lib.hid (hb.trans (hb2.mono hb.size))
  have HII := Lib.hid hi
  clear hpg hgs hb hlit hb2 hpg2 hi
  go_wp2_with fail
  refine HII.out.mono ?_
  rintro e w2 ⟨g2, rfl, hpg2, hgs2, hb2⟩
  have hc := cell_yes (F := NoF) w2 _ x 0 (hpg2.rd (noF _)) HI.out.good (by rw [HI.out.cnt]; omega)
  rw [HI.out.here] at hc
  have HB2 := Lib.hid (HB.out.trans (hb2.mono HB.out.size))
  have HC := Lib.hid hc
  clear hpg2 hgs2 hb2 hc hcv
  go_wp2_with fail
  refine HC.out.mono ?_
  intro e w3 hout
  obtain ⟨g3, rfl, hblk, hgs3, hb3⟩ := hout.at_ 2 rfl
  have hst := str_bytes (bobj_rdAt (F := NoF) hblk 2 rfl (by decide) (noF _))
  have HB3 := Lib.hid (HB2.out.trans (hb3.mono HB2.out.size))
  have hab : strOf [97, 98] = ⟨#[97, 98]⟩ := rfl
  rw [hab] at hst
  clear hout hblk hgs3 hb3 hab
  go_wp2
  go_ret
  exact ⟨rfl, HB3.out⟩

theorem low_page {F : Foot} (w : World) (v : Value) (p : List UInt8) (hv : RdB F w v p) (hp : p.length = 512) : Calls Try.prog 31 #[v] w fun e w' => e = .returned (.int .i64 (lowP p)) ∧ w = w' := by
  have hb : lowP p < 65536 := gt2_lt p 16
  obtain ⟨a, c, rfl, -, -⟩ := hv.form
  have hg := refget_any w _ p 16 2 16 2 (lowP p : Int) rfl rfl rfl hv (by omega) (by decide)
  rw [hp] at hg ⊢
  obtain ⟨z, hz⟩ : ∃ z, lowP p = z := ⟨_, rfl⟩
  rw [hz] at hg hb ⊢
  have HG := Lib.hid hg
  clear hg hz hv
  go_enter Try.func31, Try.ntmps31
  go_wp2_with fail
  refine HG.out.mono ?_
  rintro e w2 ⟨rfl, rfl⟩
  go_wp2
  go_ret
  exact ⟨rfl, rfl⟩
end Mun
