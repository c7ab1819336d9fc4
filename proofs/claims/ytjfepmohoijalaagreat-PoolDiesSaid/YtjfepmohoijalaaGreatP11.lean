/- Contract of Check. -/
import Derived.Test.YtjfepmohoijalaaGreatMgF
import Derived.Stop.BytesEq
import Derived.Laws.Cover3
set_option maxRecDepth 100000
set_option linter.unusedVariables false
set_option linter.unusedSimpArgs false
namespace Mun
open Go Go.RowKit
open Go.Proofs

@[irreducible] def pgA (p : PBytes) : Array Value := (bv p).toArray
theorem size_u8 (w : World) : (Go.sizeOf 5).run Tryz.prog w = .ok 1 w := by
  obtain ⟨i, hi', hz, hs1, hs2⟩ := info_of info_u8
  simp [Go.sizeOf, typeInfo, hi', hs1]
theorem arr_at (g off c : Nat) (w : World) : (Instr.arrayAt 147 (.slice (some ⟨g, off, none⟩) 512 c)).run Tryz.prog w = .ok (.pointer (some ⟨g, off, none⟩)) w :=
  run_arrayAt w _ _ 512 _ _ _ Tryz.underlying147 (Nat.le_refl _)
theorem zero83 : Tryz.zeroCells147 = (bv (zer 512)).toArray := by kernel_rfl
theorem arr_eq (w : World) (p : PBytes) (hp : p.length = 512) (b : Bool) (hb : (p == zer 512) = b) : (Op.equalIn 10000 147 (.agg (pgA p)) (.agg Tryz.zeroCells147)).run Tryz.prog w = .ok b w := by
  subst hb
  rw [zero83]
  unfold pgA
  exact run_equalIn_bytes (P := Tryz.prog) w 9998 147 5 512 Tryz.underlying147 Tryz.underlying5 size_u8 p (zer 512) hp (by simp [zer])
theorem arr_load (w : World) (g off : Nat) (p : PBytes) (hp : p.length = 512) (hc : ∀ i (hi : i < p.length), w.cell? ⟨g, off + i, none⟩ = some (.int .u8 (p[i].toNat : Int))) :
    (Instr.loadAt 147 (.pointer (some ⟨g, off, none⟩))).run Tryz.prog w = .ok (.agg (pgA p)) w := by
  unfold pgA
  refine run_loadAt_mid (P := Tryz.prog) w g off 147 (bv p) _ (fun j u hu => ?_) Tryz.underlying147 (by rfl) (by rw [bv_length, hp]; kernel_rfl)
  rw [bv_getElem?] at hu
  have hj : j < p.length := by
    rcases Nat.lt_or_ge j p.length with h | h
    · exact h
    · rw [List.getElem?_eq_none h] at hu; cases hu
  rw [List.getElem?_eq_getElem hj] at hu
  simp only [Option.map_some, Option.some.injEq] at hu
  rw [← hu]
  exact hc j hj

theorem wp_load_eq {P : Program} {op : Oper} {a : Act} {w : World} {K : Act → World → Prop} {Q : Exit → Act → World → Prop} {ty : TypeId} {x : Operand} (ho : op.op = .load ty x) {v v' : Value} (hx : a.eval x = v)
    (hr : (Instr.loadAt ty v).run P w = .ok v' w) (h : K (a.put op.dst v') w) : op.wp P a w K Q := by
  unfold Oper.wp
  simp [execOp, ho, hx, hr, Result.andThen]
  exact h

/-- b[lo:] -/
theorem slice_rest {F : Foot} {w : World} {a : Option Addr} {n c : Nat} {l : List UInt8} (h : RdB F w (.slice a n c) l) (lo : Nat) (L : Int) (hL : L = lo) (h1 : lo ≤ n) (hn : n = l.length) :
    ∃ a1 c1, (∀ W, (Instr.sliceAt 41 (.slice a n c) (some (.int .i64 L)) none none).run Tryz.prog W = .ok (.slice a1 (n - lo) c1) W) ∧ RdB F w (.slice a1 (n - lo) c1) (l.drop lo) := by
  subst hL
  subst hn
  have hp := h.part lo l.length h1 (Nat.le_refl _)
  obtain ⟨a', c', hv, hc1, hc2⟩ := h.form
  injection hv with e1 e2 e3
  subst e1 e3
  rw [List.take_of_length_le (by rw [List.length_drop]; exact Nat.le_refl _)] at hp
  refine ⟨_, _, fun W => ?_, hp⟩
  obtain ⟨i, hi', hz, hs1, hs2⟩ := info_of info_u8
  have he : Tryz.prog.elem 41 = 5 := by kernel_rfl
  have ht : Tryz.prog.underlying 41 = some (.slice (Tryz.prog.elem 41)) := by rw [he]; exact Tryz.underlying41
  rw [run_sliceAt_slice _ _ _ _ _ _ ht, run_slice_l _ _ _ _ _ ht _ _ (by omega) (by omega), he]
  simp [Go.sizeOf, typeInfo, hi', hs1, sliced]

set_option maxHeartbeats 1000000 in
/-- the last part of Check, the page not all noughts -/
theorem check_any {F : Foot} (w : World) (v : Value) (p : List UInt8) (hv : RdB F w v p) : Calls Tryz.prog 45 #[v] w fun e w' => e = .returned (.int .i64 (checkP p)) ∧ Below w.heap.size w w' := by
  by_cases hp : p.length = 512
  · obtain ⟨g, off, c, rfl, hlc, hcm, hF, hglt, hcells⟩ := hv.at_ (by omega)
    have hld := arr_load w g off p hp hcells
    have HLD := Lib.hid hld
    clear hld
    have har := arr_at g off c w
    rw [hp] at hv ⊢
    by_cases hz : p = zer 512
    · have heq := arr_eq w p hp true (by simpa using hz)
      have HC : Hid (checkP p = 0) := by show _ = _; unfold checkP; rw [if_pos hz]
      clear hcells hv hz
      go_enter Tryz.func45, Tryz.ntmps45
      go_wp2_with fail
      refine wp_load_eq rfl rfl HLD.out ?_
      go_wp2
      go_ret
      exact ⟨by rw [HC.out]; rfl, Below.refl _ _⟩
    · have heq := arr_eq w p hp false (by simpa using hz)
      by_cases hg : GoodP p
      · have hpo := pof_yes w _ p hv hg
        have HC : Hid (checkP p = if gt p 0 4 ≠ (crcOf (p.drop 4)).toNat then 8 else 0) := by show _ = _; unfold checkP; rw [if_neg hz, if_neg (by simpa using hg)]
        have HPO := Lib.hid hpo
        have HP := Lib.hid hp
        have HV := Lib.hid hv
        have hxb : gt p 0 4 < 4294967296 := gt4_lt p 0
        have hsb : (crcOf (p.drop 4)).toNat < 4294967296 := (crcOf (p.drop 4)).isLt
        obtain ⟨x, hx⟩ : ∃ x, gt p 0 4 = x := ⟨_, rfl⟩
        obtain ⟨s, hs⟩ : ∃ s, (crcOf (p.drop 4)).toNat = s := ⟨_, rfl⟩
        rw [hx] at HC hxb
        rw [hs] at HC hsb
        have HXS := Lib.hid (And.intro hx (And.intro hs (And.intro hxb hsb)))
        obtain ⟨a1, c1, hsl, hrd1⟩ := slice_rest hv 4 4 rfl (by omega) hp.symm
        have HRD := Lib.hid hrd1
        have hwr : IntKind.i64.wrap (s : Int) = (s : Int) := by rw [IntKind.wrap_i64]; omega
        clear hcells hv hz hpo hp hg hx hs hxb hsb hrd1
        go_enter Tryz.func45, Tryz.ntmps45
        go_wp2_with fail
        refine wp_load_eq rfl rfl HLD.out ?_
        go_wp2_with fail
        refine HPO.out.mono ?_
        rintro e w2 ⟨rfl, hb⟩
        have hbx : (w2.alloc (.cells #[.slice (some ⟨g, off, none⟩) 512 c] 149)).drew.cell? ⟨w2.heap.size, 0, none⟩ = some (.slice (some ⟨g, off, none⟩) 512 c) := one_cell (w := w2.alloc (.cells #[.slice (some ⟨g, off, none⟩) 512 c] 149)) (heap_alloc_new w2 _)
        have hB3 : Below w.heap.size w (w2.alloc (.cells #[.slice (some ⟨g, off, none⟩) 512 c] 149)) := hb.alloc hb.size _
        obtain ⟨w3, hw3⟩ : ∃ w3, w2.alloc (.cells #[.slice (some ⟨g, off, none⟩) 512 c] 149) = w3 := ⟨_, rfl⟩
        rw [hw3] at hbx hB3
        have hget := get_any (F := F) w3.drew _ p 0 4 0 4 rfl rfl (RdB.drewN (RdB.below HV.out hB3) 1) (by have := HP.out; omega) (by decide) (by have := HP.out; omega)
        rw [HXS.out.1] at hget
        have hof : ∀ W, Below w3.heap.size w3 W → Calls Tryz.prog 85 #[.slice a1 (512 - 4) c1] W fun e w' => e = .returned (.int .u32 (s : Int)) ∧ W = w' :=
          fun W hW => of_any W _ (p.drop 4) (s : Int) (by rw [HXS.out.2.1]) (RdB.below (RdB.below HRD.out hB3) hW)
        have HGT := Lib.hid hget
        have HOF := Lib.hid hof
        have HB3 := Lib.hid hB3
        have hS0 : w3.drew.cell? ⟨w2.heap.size, 0, none⟩ = some (.slice (some ⟨g, off, none⟩) 512 c) ∧ Below w3.heap.size w3 w3.drew := ⟨hbx, below_drewN (Below.refl _ _) 1⟩
        clear hb hbx hB3 hget hof
        go_wp2
        go_region_held_law (fun W => W.cell? ⟨w2.heap.size, 0, none⟩ = some (.slice (some ⟨g, off, none⟩) 512 c) ∧ Below w3.heap.size w3 W)
          (first | exact hS1 | exact hS0)
          (first
          | ((go_simp; go_at_call 84; refine HGT.out.mono ?_; rintro e W1 ⟨rfl, hb1⟩; have hS1 := boxS_keep hS0 hb1; clear HGT))
          | ((go_simp; go_at_call 85; refine (HOF.out _ hS1.2).mono ?_; rintro e W2 ⟨rfl, rfl⟩)))
        have HF := Lib.hid hS1.2
        clear hS0 hS1 hb1
        by_cases hxs : x = s
        · have t1 : ((x : Int) != (s : Int)) = false := by simp [hxs]
          have HR : Hid (checkP p = 0) := by show _ = _; rw [HC.out, if_neg (by simp [hxs])]
          clear hxs
          go_wp2
          go_ret
          exact ⟨by rw [HR.out]; rfl, HB3.out.trans (HF.out.mono HB3.out.size)⟩
        · have t1 : ((x : Int) != (s : Int)) = true := by simp; omega
          have HR : Hid (checkP p = 8) := by show _ = _; rw [HC.out, if_pos hxs]
          clear hxs
          go_wp2
          go_ret
          exact ⟨by rw [HR.out]; rfl, HB3.out.trans (HF.out.mono HB3.out.size)⟩
      · have HC : Hid (checkP p = 4) := by show _ = _; unfold checkP; rw [if_neg hz, if_pos hg]
        have hpo := pof_no w _ p hv hg
        have HPO := Lib.hid hpo
        clear hcells hv hz hpo hp hg
        go_enter Tryz.func45, Tryz.ntmps45
        go_wp2_with fail
        refine wp_load_eq rfl rfl HLD.out ?_
        go_wp2_with fail
        refine HPO.out.mono ?_
        rintro e w2 ⟨rfl, hb⟩
        have HB := Lib.hid hb
        clear hb
        go_wp2
        go_ret
        exact ⟨by rw [HC.out]; rfl, HB.out.alloc HB.out.size _⟩
  · have hz : ¬ p = zer 512 := fun h => hp (by rw [h]; simp [zer])
    have hg : ¬ GoodP p := fun h => hp h.len
    have HC : Hid (checkP p = 4) := by show _ = _; unfold checkP; rw [if_neg hz, if_pos hg]
    have hpo := pof_no w v p hv hg
    obtain ⟨a, n, c, rfl, HN, hlc, hcm⟩ := hv.formN
    have hn : ((n : Int) == 512) = false := by have := HN.out; simp; omega
    have HPO := Lib.hid hpo
    clear hv hz hpo hp hg HN
    go_enter Tryz.func45, Tryz.ntmps45
    go_wp2_with fail
    refine HPO.out.mono ?_
    rintro e w2 ⟨rfl, hb⟩
    have HB := Lib.hid hb
    clear hb
    go_wp2
    go_ret
    exact ⟨by rw [HC.out]; rfl, HB.out.alloc HB.out.size _⟩
end Mun
