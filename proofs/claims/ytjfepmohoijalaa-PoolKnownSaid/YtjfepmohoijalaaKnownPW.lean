/- The law PageKnown: the walk. -/
import Derived.Test.YtjfepmohoijalaaPageAw
import Derived.Test.YtjfepmohoijalaaPageJ
import Derived.Test.YtjfepmohoijalaaP11
import Derived.Test.YtjfepmohoijalaaP15
import Derived.Test.YtjfepmohoijalaaP10
set_option maxRecDepth 100000
set_option linter.unusedVariables false
set_option linter.unusedSimpArgs false
namespace Mun
open Go Go.RowKit
open Go.Proofs

/-- pages that lie there -/
def Pgs (w : World) (L : List (Nat × PBytes)) : Prop := ∀ x ∈ L, PgAt w x.1 x.2
theorem Pgs.below {w w' : World} {L : List (Nat × PBytes)} (h : Pgs w L) (hb : Below w.heap.size w w') : Pgs w' L := fun x hx => (h x hx).below hb
theorem Pgs.nil (w : World) : Pgs w [] := fun x hx => by simp at hx
theorem Pgs.cons {w : World} {L : List (Nat × PBytes)} {g : Nat} {p : PBytes} (h : PgAt w g p) (hl : Pgs w L) : Pgs w ((g, p) :: L) := by
  intro x hx
  rcases List.mem_cons.1 hx with rfl | hx
  · exact h
  · exact hl x hx

structure KnownP (a b c d t : PBytes) : Prop where
  ga : GoodP a
  gb : GoodP b
  gc : GoodP c
  gd : GoodP d
  gt : GoodP t
  ca : cnt a = 1
  cb : cnt b = 2
  cc : cnt c = 1
  fa : freeP a = 480
  fc : freeP c = 480
  ft : freeP t = 472
  lb : lowP b = 509
  lc : lowP c = 509
  ld : lowP d = 34
  eb : insP a 0 [99] = b
  ec : remP b 0 = c
  ed : insP c 1 (zer 476) = d
  et : insP (newP 1) 0 (zer 10) = t
  ea : insP (newP 1) 0 [97, 98] = a

theorem known_p : ∃ a b c d t, KnownP a b c d t := by
  have ha := ins_facts (new_good 1) (i := 0) (Nat.zero_le _) (c := [97, 98]) (by rw [new_free]; decide)
  have fa : freeP (insP (newP 1) 0 [97, 98]) = 480 := by decide +kernel
  have hb := ins_facts ha.good (i := 0) (Nat.zero_le _) (c := [99]) (by rw [fa]; decide)
  have ca : cnt (insP (newP 1) 0 [97, 98]) = 1 := by rw [ha.cnt, new_cnt]
  have cb : cnt (insP (insP (newP 1) 0 [97, 98]) 0 [99]) = 2 := by rw [hb.cnt, ca]
  have hc := rem_facts hb.good (i := 0) (by rw [cb]; decide)
  have cc : cnt (remP (insP (insP (newP 1) 0 [97, 98]) 0 [99]) 0) = 1 := by rw [hc.cnt, cb]
  have fc : freeP (remP (insP (insP (newP 1) 0 [97, 98]) 0 [99]) 0) = 480 := by decide +kernel
  have hd := ins_facts hc.good (i := 1) (by rw [cc]; exact Nat.le_refl _) (c := zer 476) (by rw [fc, zer_length]; decide)
  have ht := ins_facts (new_good 1) (i := 0) (Nat.zero_le _) (c := zer 10) (by rw [new_free, zer_length]; decide)
  exact ⟨_, _, _, _, _, ha.good, hb.good, hc.good, hd.good, ht.good, ca, cb, cc, fa, fc, by decide +kernel, by decide +kernel, by decide +kernel, by decide +kernel, rfl, rfl, rfl, rfl, rfl⟩

theorem check_zero : checkP (zer 512) = 0 := by unfold checkP; rw [if_pos rfl]
theorem check_new : checkP (newP 1) = 8 := by
  unfold checkP
  rw [if_neg (by decide +kernel), if_neg (by simpa using new_good 1), if_pos ?_]
  have h1 : gt (newP 1) 0 4 = 0 := by decide +kernel
  rw [h1]
  exact Ne.symm (crc_ne_zero (by decide +kernel))

theorem made (w : World) (n : Nat) (N : Int) (hN : N = n) (hn : n ≤ 512) : (Instr.makeSlice 31 (.int .i64 N) (.int .i64 N)).run Try.prog w = .ok (.slice (some ⟨w.heap.size, 0, none⟩) n n) (w.alloc (bobj (zer n))) := by
  subst hN
  exact make_bytes n n (Nat.le_refl _) (by omega) w
theorem made_rd (w : World) (n : Nat) (hn : n ≤ 512) : RdB NoF (w.alloc (bobj (zer n))) (.slice (some ⟨w.heap.size, 0, none⟩) n n) (zer n) :=
  bobj_rdAt (heap_alloc_new w _) n (zer_length n) (by unfold maxLen; omega) (noF _)

end Mun
