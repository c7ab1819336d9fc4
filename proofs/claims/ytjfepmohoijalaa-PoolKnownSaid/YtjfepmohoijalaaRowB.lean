/- Rows of rows of bytes. -/
import Derived.Test.YtjfepmohoijalaaMgA
set_option maxRecDepth 100000
set_option linter.unusedVariables false
set_option linter.unusedSimpArgs false
namespace Mun
open Go Go.RowKit
open Go.Proofs

theorem info_bs : (Try.prog.info? 31).map (fun i => (i.zero, i.size, i.bytes)) = some (some (.slice none 0 0), 1, 24) := by kernel_rfl

/-- a row of values of one cell each, of a type -/
abbrev OwnV (w : World) (B : Nat) (v : Value) (vs : List Value) : Prop := w.ownsRow B 31 1 v vs.length vs

theorem make_row (n : Nat) (hn : n ≤ 1000000) (w : World) :
    ∃ w1, (Instr.makeSlice 80 (.int .i64 0) (.int .i64 n)).run Try.prog w = .ok (.slice (some ⟨w.heap.size, 0, none⟩) 0 n) w1 ∧ OwnV w1 w.heap.size (.slice (some ⟨w.heap.size, 0, none⟩) 0 n) [] ∧ Below w.heap.size w w1 ∧ w1.heap.size = w.heap.size + 1 := by
  obtain ⟨i, hi, hz, h1, h2⟩ := info_of info_bs
  have hr := run_make (P := Try.prog) w _ _ i _ Try.underlying80 hi hz .i64 .i64 0 n (by omega) (by omega) (by rw [h2]; omega) (by omega)
  rw [h1] at hr
  simp only [Int.toNat_natCast, Nat.mul_one, Int.toNat_zero] at hr
  refine ⟨_, hr, ⟨rfl, .inr ⟨_, _, _, rfl, Nat.le_refl _, heap_alloc_new w _, Nat.zero_le _, by unfold maxLen; omega, by simp [madeCells], by simp⟩⟩, (Below.refl _ _).alloc (Nat.le_refl _) _, by simp⟩

/-- an append of one to a row -/
theorem append_one {w : World} {B : Nat} {ty : TypeId} {v x : Value} {vs : List Value} (hx : x.oneCell' = true) (hown : OwnV w B v vs) (hbytes : vs.length < 1000000) (hbase : B ≤ w.heap.size) :
    ∃ v' w', (Builtin.append_ #[80, 80] ty #[v, .slice (some ⟨w.heap.size, 0, none⟩) 1 1]).run Try.prog (w.alloc (.cells #[x] 31)) = .ok v' w' ∧
      OwnV w' B v' (vs ++ [x]) ∧ (w.alloc (.cells #[x] 31)).grownBy w' v.ownBlock ∧ (v'.ownBlock = v.ownBlock ∨ v'.ownBlock = some (w.heap.size + 1)) ∧ ∃ g c, v' = .slice (some ⟨g, 0, none⟩) (vs.length + 1) c := by
  obtain ⟨i, hi, hz, h1, h2⟩ := info_of info_bs
  have hx' : RdV (fun _ => False) (w.alloc (.cells #[x] 31)) 1 (.slice (some ⟨w.heap.size, 0, none⟩) 1 1) 1 [x] :=
    ⟨rfl, _, _, rfl, Nat.le_refl _, by decide, by simp, fun _ => ⟨_, 0, _, _, _, rfl, fun h => h, heap_alloc_new w _, rfl⟩⟩
  obtain ⟨v', w', hr, h3, h4, h5, h6⟩ := run_append_rd (P := Try.prog) (ty := ty) Try.underlying80 hi hz h1 h2 (by rfl) (by omega) (World.ownsRow.alloc hown _) hx' (by intro u hu; simp at hu; subst hu; exact hx) (by omega) (by omega) (by simp; omega)
  have h3' : OwnV w' B v' (vs ++ [x]) := by unfold OwnV; rw [List.length_append]; exact h3
  refine ⟨v', w', hr, h3', h4, by simpa using h5, ?_⟩
  rcases h3.2 with ⟨_, h0⟩ | ⟨g, cap, cur, hv, _⟩
  · omega
  · exact ⟨g, cap, hv⟩

/-- rows that read: each element reads as its bytes -/
structure ListsAt (F : Foot) (w : World) (v : Value) (cs : List (List UInt8)) (vs : List Value) : Prop where
  row : RdV F w 1 v cs.length vs
  rd : ∀ i (h : i < cs.length), ∃ u, vs[i]? = some u ∧ RdB F w u cs[i]

theorem ListsAt.below {F : Foot} {w w' : World} {v : Value} {cs : List (List UInt8)} {vs : List Value} (h : ListsAt F w v cs vs) (hb : Below w.heap.size w w') : ListsAt F w' v cs vs :=
  ⟨h.row.below hb, fun i hi => by obtain ⟨u, h1, h2⟩ := h.rd i hi; exact ⟨u, h1, RdB.below h2 hb⟩⟩
end Mun
