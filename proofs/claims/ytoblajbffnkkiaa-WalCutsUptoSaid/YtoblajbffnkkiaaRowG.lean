/- Rows of a law's own: an element more. -/
import Derived.Test.YtoblajbffnkkiaaMgI
import Derived.Test.YtoblajbffnkkiaaOwnG
set_option maxRecDepth 100000
set_option linter.unusedVariables false
set_option linter.unusedSimpArgs false
namespace Mun
open Go Go.RowKit
open Go.Proofs

/-- a row's block, and others -/
def rowZ (v : Value) (Y : Foot) : Foot := fun k => v.ownBlock = some k ∨ Y k

theorem push_any {w : World} {t ty e : TypeId} {i : TypeInfo} {z : Value} {size bytes : Nat} (ht : Try.prog.underlying t = some (.slice e)) (hi : Try.prog.info? e = some i) (hz : i.zero = some z)
    (hsize : i.size = size) (hby : i.bytes = bytes) (hzs : z.cells.size = size) (hsz : 0 < size) (hpos : 0 < bytes)
    {v : Value} {n : Nat} {xs : List Value} (C : Array Value) (hy : C.size = size) (h1 : ∀ u ∈ C.toList, u.oneCell' = true) (h : w.ownsRow 0 e size v n xs) (hl : (n + 1) * bytes ≤ 140737488355328) :
    ∃ R cp w', (Builtin.append_ #[t, t] ty #[v, .slice (some ⟨w.heap.size, 0, none⟩) 1 1]).run Try.prog (w.alloc (.cells C e)) = .ok (.slice (some ⟨R, 0, none⟩) (n + 1) cp) w' ∧
      w'.ownsRow 0 e size (.slice (some ⟨R, 0, none⟩) (n + 1) cp) (n + 1) (xs ++ C.toList) ∧ ∀ Y, Chg (rowZ v Y) (rowZ (.slice (some ⟨R, 0, none⟩) (n + 1) cp) Y) w w' := by
  have hsrc : RdV (fun _ => False) (w.alloc (.cells C e)) size (.slice (some ⟨w.heap.size, 0, none⟩) 1 1) 1 C.toList :=
    ⟨by simpa using hy, _, _, rfl, Nat.le_refl _, by unfold maxLen; omega, by simp, fun _ => ⟨w.heap.size, 0, _, _, (0, 0), rfl, fun h => h, heap_alloc_new w _, by
      rw [List.drop_zero, List.take_of_length_le (by simp; omega)]⟩⟩
  obtain ⟨v', w', hr, ho, hg, hob, hnil⟩ := run_append_rd (P := Try.prog) (base := 0) (ty := ty) ht hi hz hsize hby hzs hsz (World.ownsRow.alloc h _) hsrc h1 hl hpos (Nat.zero_le _)
  rcases ho.2 with ⟨rfl, h0⟩ | ⟨R, cp, cur, rfl, hb, hR, hrest⟩
  · exact absurd (hnil.1 rfl).2 (by omega)
  · refine ⟨R, cp, w', hr, ho, fun Y => chg_app hg (fun k hk => .inl hk) (fun k hk => ?_)⟩
    rcases hk with hk | hk
    · rcases hob with h3 | h3
      · exact .inl (.inl (h3 ▸ hk))
      · simp only [Value.ownBlock, Option.some.injEq] at h3 hk
        have := lt_of_block hR
        rw [World.size_alloc] at h3
        exact .inr ⟨by omega, by omega⟩
    · exact .inl (.inr hk)

theorem info_u64 : (Try.prog.info? 22).map (fun i => (i.zero, i.size, i.bytes)) = some (some (.int .u64 0), 1, 8) := by kernel_rfl
theorem info_recT : (Try.prog.info? 26).map (fun i => (i.zero, i.size, i.bytes)) = some (some (.agg #[.int .i64 0, .int .u64 0, .int .u64 0, .int .u64 0, .slice none 0 0, .slice none 0 0]), 6, 80) := by kernel_rfl

/-- numbers as values -/
def uv (l : List Nat) : List Value := l.map fun (n : Nat) => Value.int .u64 (n : Int)
def rv (l : List QV) : List Value := l.flatMap fun p => rcl p.1 p.2
theorem uv_snoc (l : List Nat) (n : Nat) : uv (l ++ [n]) = uv l ++ [.int .u64 n] := by simp [uv]
theorem rv_snoc (l : List QV) (p : QV) : rv (l ++ [p]) = rv l ++ rcl p.1 p.2 := by simp [rv]

theorem push_u64 {w : World} {ty : TypeId} {v : Value} {l : List Nat} (x : Nat) (h : w.ownsRow 0 22 1 v l.length (uv l)) (hl : l.length < 16777216) :
    ∃ R cp w', (Builtin.append_ #[48, 48] ty #[v, .slice (some ⟨w.heap.size, 0, none⟩) 1 1]).run Try.prog (w.alloc (.cells #[.int .u64 x] 22)) = .ok (.slice (some ⟨R, 0, none⟩) (l.length + 1) cp) w' ∧
      w'.ownsRow 0 22 1 (.slice (some ⟨R, 0, none⟩) (l.length + 1) cp) (l ++ [x]).length (uv (l ++ [x])) ∧ ∀ Y, Chg (rowZ v Y) (rowZ (.slice (some ⟨R, 0, none⟩) (l.length + 1) cp) Y) w w' := by
  obtain ⟨i, hi, hz, h1, h2⟩ := info_of info_u64
  obtain ⟨R, cp, w', hr, ho, hc⟩ := push_any (ty := ty) Try.underlying48 hi hz h1 h2 rfl (by decide) (by decide) #[.int .u64 x] rfl (by intro u hu; simp only [List.mem_cons, List.not_mem_nil, or_false] at hu; subst hu; rfl) h (by omega)
  refine ⟨R, cp, w', hr, ?_, hc⟩
  rw [uv_snoc, List.length_append]
  exact ho

theorem push_rec {w : World} {ty : TypeId} {v : Value} {l : List QV} (r : PR) (y : RV) {da ca : Option Addr} {dn dc cn cc : Nat} (e1 : y.dv = .slice da dn dc) (e2 : y.cv = .slice ca cn cc) (h : w.ownsRow 0 26 6 v l.length (rv l)) (hl : l.length < 16777216) :
    ∃ R cp w', (Builtin.append_ #[46, 46] ty #[v, .slice (some ⟨w.heap.size, 0, none⟩) 1 1]).run Try.prog (w.alloc (.cells (rcs r (.slice da dn dc) (.slice ca cn cc)) 26)) = .ok (.slice (some ⟨R, 0, none⟩) (l.length + 1) cp) w' ∧
      w'.ownsRow 0 26 6 (.slice (some ⟨R, 0, none⟩) (l.length + 1) cp) (l ++ [(r, y)]).length (rv (l ++ [(r, y)])) ∧ ∀ Y, Chg (rowZ v Y) (rowZ (.slice (some ⟨R, 0, none⟩) (l.length + 1) cp) Y) w w' := by
  obtain ⟨i, hi, hz, h1, h2⟩ := info_of info_recT
  obtain ⟨R, cp, w', hr, ho, hc⟩ := push_any (ty := ty) Try.underlying46 hi hz h1 h2 rfl (by decide) (by decide) (rcs r (.slice da dn dc) (.slice ca cn cc)) rfl (by
    intro u hu
    simp only [rcs, List.mem_cons, List.not_mem_nil, or_false] at hu
    rcases hu with rfl | rfl | rfl | rfl | rfl | rfl <;> rfl) h (by omega)
  refine ⟨R, cp, w', hr, ?_, hc⟩
  rw [rv_snoc, List.length_append]
  have e : rcl r y = (rcs r (.slice da dn dc) (.slice ca cn cc)).toList := by simp only [rcl, rcs, e1, e2]
  rw [e]
  exact ho
end Mun
