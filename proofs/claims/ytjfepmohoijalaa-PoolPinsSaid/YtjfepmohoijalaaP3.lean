/- Contracts of what writes into a page of the call's own: put, setSlot, below. -/
import Derived.Test.YtjfepmohoijalaaP2
import Derived.Laws.CopyRow
import Derived.Deep.RegionHeldLaw
import Derived.StillTailTactics
set_option maxRecDepth 100000
set_option linter.unusedVariables false
namespace Mun
open Go Go.RowKit
open Go.Proofs

/-- block g holds the bytes p, 512 of them -/
def PgAt (w : World) (g : Nat) (p : List UInt8) : Prop := w.heap[g]? = some (bobj p) ∧ p.length = 512
abbrev PV (g : Nat) : Value := .slice (some ⟨g, 0, none⟩) 512 512
abbrev G1 (g : Nat) : Foot := fun k => k = g

theorem PgAt.lt {w : World} {g : Nat} {p : List UInt8} (h : PgAt w g p) : g < w.heap.size := (Array.getElem?_eq_some_iff.1 h.1).1
theorem PgAt.below {w w' : World} {g : Nat} {p : List UInt8} (h : PgAt w g p) (hb : Below w.heap.size w w') : PgAt w' g p := ⟨(hb.block g h.lt).trans h.1, h.2⟩
theorem PgAt.rd {F : Foot} {w : World} {g : Nat} {p : List UInt8} (h : PgAt w g p) (hF : ¬ F g) : RdB F w (PV g) p := by
  refine ⟨by simp [bv], some ⟨g, 0, none⟩, 512, by rw [h.2], by rw [h.2]; exact Nat.le_refl _, by decide, by simp, fun _ => ⟨g, 0, _, _, _, rfl, hF, h.1, ?_⟩⟩
  simp only [List.drop_zero]
  rw [List.take_of_length_le (by simp [bv])]
theorem PgAt.new (w : World) (p : List UInt8) (hp : p.length = 512) : PgAt (w.alloc (bobj p)) w.heap.size p := ⟨heap_alloc_new w _, hp⟩

theorem bytes_info' : (Try.prog.info? 5).map (·.size) = some 1 := by kernel_rfl

/-- a slice of a page of the call's own -/
theorem slice_own (g lo hi : Nat) (L H : Int) (hL : L = lo) (hH : H = hi) (h1 : lo ≤ hi) (h2 : hi ≤ 512) (hlo : lo < 512) (W : World) :
    (Instr.sliceAt 31 (.slice (some ⟨g, 0, none⟩) 512 512) (some (.int .i64 L)) (some (.int .i64 H)) none).run Try.prog W = .ok (.slice (some ⟨g, lo, none⟩) (hi - lo) (512 - lo)) W := by
  subst hL
  subst hH
  obtain ⟨i, hi', hz, hs1, hs2⟩ := info_of info_u8
  have he : Try.prog.elem 31 = 5 := by kernel_rfl
  have ht : Try.prog.underlying 31 = some (.slice (Try.prog.elem 31)) := by rw [he]; exact Try.underlying31
  rw [run_sliceAt_slice _ _ _ _ _ _ ht, run_slice_lh _ _ _ _ _ ht _ _ _ _ (by omega) (by omega) (by omega), he]
  have hne : ¬ (512 = lo) := by omega
  simp [Go.sizeOf, typeInfo, hi', hs1, sliced, hne, addr_add]

/-- bytes copied into the midst of a page -/
theorem copy_mid {F : Foot} {ty : TypeId} (W : World) (g A n c : Nat) (p ys : List UInt8) (src : Value) (hg : PgAt W g p) (hs : RdB F W src ys) (hn : ys.length ≤ n) (hA : A + ys.length ≤ 512) (dst : Value)
    (hd : (0 < ys.length → dst = .slice (some ⟨g, A, none⟩) n c) ∧ (∃ a, dst = .slice a n c)) :
    ∃ W' r, (Builtin.copy_ #[31, 31] ty #[dst, src]).run Try.prog W = .ok (goInt r) W' ∧ PgAt W' g (putAt p A ys) ∧ Chg (G1 g) (G1 g) W W' := by
  have hpl : (putAt p A ys).length = 512 := by rw [putAt_length _ _ _ (by rw [hg.2]; exact hA)]; exact hg.2
  by_cases h0 : ys.length = 0
  · obtain rfl : ys = [] := List.eq_nil_of_length_eq_zero h0
    obtain ⟨a, c2, rfl, -⟩ := hs.form
    obtain ⟨a2, rfl⟩ := hd.2
    refine ⟨W, 0, run_copy_none (P := Try.prog) _ _ _ ty _ _ _ _ _ _ _ Try.underlying31 bytes_info' (by simp), ?_, Chg.refl _ _⟩
    rw [putAt_nil]
    exact hg
  · obtain ⟨g2, off, c2, rfl, _, _, _, _, hc⟩ := RdV.at_ hs (by omega)
    rw [hd.1 (by omega)]
    have hr := run_copy_row (P := Try.prog) W 31 31 ty 5 g A n c ⟨g2, off, none⟩ ys.length c2 (bv p).toArray 5 (bv ys) Try.underlying31 bytes_info'
      hg.1 (by rw [bv_length]; exact (Nat.min_eq_left hn).symm) (fun j u hu => by rw [addr_add]; exact hc j u hu) (by simp [bv]; rw [hg.2]; exact hA) (bv_oneCell ys)
    refine ⟨_, _, hr, ⟨?_, hpl⟩, ⟨rfl, rfl, rfl, by simp, fun k _ hk => setRow_other _ _ _ _ (fun e => hk e), fun k hk => .inl hk⟩⟩
    have := setRow_heap W g (bv p).toArray (List.take A (bv p).toArray.toList ++ bv ys ++ List.drop (A + (bv ys).length) (bv p).toArray.toList).toArray 5 (0, 0) hg.1
    rw [this]
    simp [bobj, bv, putAt, List.map_take, List.map_drop]

/-- a copy whose run is known, at a step of a region that draws its order -/
theorem step_copy_eq {P : Program} {ops : Array Oper} {o : Oper} {a : Act} {w : World} {K : Act → World → Prop} {Q : Exit → Act → World → Prop} {E : Prop} (hgd : o.guard = none) {s x : Operand} {t u : TypeId}
    (ho : o.op = .call { callee := .builtin .copy, args := #[s, x], argTypes := #[t, u] }) {v sv v' : Value} {w' : World}
    (hr : (Builtin.copy_ #[t, u] o.type #[v, sv]).run P w = .ok v' w') (hs : a.eval s = v) (hx : a.eval x = sv) (h : K (a.put o.dst v') w') :
    if Region.wanted o (yielded ops a.tmps) = true then Oper.wp P o a w K Q else E := by
  have hw : Region.wanted o (yielded ops a.tmps) = true := by simp [Region.wanted, hgd]
  rw [if_pos hw]
  unfold Oper.wp
  simp [execOp, ho, resolve, invoke, builtin, hs, hx, hr, Result.andThen]
  exact h
theorem step_append_eq {P : Program} {ops : Array Oper} {o : Oper} {a : Act} {w : World} {K : Act → World → Prop} {Q : Exit → Act → World → Prop} {E : Prop} (hgd : o.guard = none) {s x : Operand} {t : TypeId}
    (ho : o.op = .call { callee := .builtin .append, args := #[s, x], argTypes := #[t, t] }) {v sv v' : Value} {w' : World}
    (hr : (Builtin.append_ #[t, t] o.type #[v, sv]).run P w = .ok v' w') (hs : a.eval s = v) (hx : a.eval x = sv) (h : K (a.put o.dst v') w') :
    if Region.wanted o (yielded ops a.tmps) = true then Oper.wp P o a w K Q else E := by
  have hw : Region.wanted o (yielded ops a.tmps) = true := by simp [Region.wanted, hgd]
  rw [if_pos hw]
  unfold Oper.wp
  simp [execOp, ho, resolve, invoke, builtin, hs, hx, hr, Result.andThen]
  exact h

theorem box_chg {F F' : Foot} {b : Nat} {v : Value} {W W' : World} (h : W.cell? ⟨b, 0, none⟩ = some v) (hc : Chg F F' W W') (hF : ¬ F b) : W'.cell? ⟨b, 0, none⟩ = some v := by
  obtain ⟨hs, cur, e, fr, hh, hcc⟩ := cell_block h
  have hlt := (Array.getElem?_eq_some_iff.1 hh).1
  have := (hc.block b hlt hF).trans hh
  rw [cell_of_row W' b 0 cur e fr this]
  exact hcc

set_option maxHeartbeats 800000 in
theorem put_any (w : World) (g : Nat) (p : List UInt8) (a k : Int) (A K n : Nat) (hA : a = A) (hK : k = K) (hg : PgAt w g p) (h : A + K ≤ 512) (hK0 : 0 < K) (hK8 : K ≤ 8) :
    Calls Try.prog 45 #[.agg #[PV g], .int .i64 a, .int .i64 k, .int .u64 n] w fun e w' => e = .returned (.tuple #[]) ∧ PgAt w' g (pt p A K n) ∧ Chg (G1 g) (G1 g) w w' := by
  subst hA
  subst hK
  have hbox : (w.alloc (.cells #[.slice (some ⟨g, 0, none⟩) 512 512] 96)).drew.cell? ⟨w.heap.size, 0, none⟩ = some (.slice (some ⟨g, 0, none⟩) 512 512) :=
    cell_of_row (w.alloc (.cells #[.slice (some ⟨g, 0, none⟩) 512 512] 96)) w.heap.size 0 _ _ _ (heap_alloc_new w _)
  obtain ⟨w1, hw1⟩ : ∃ w1, w.alloc (.cells #[.slice (some ⟨g, 0, none⟩) 512 512] 96) = w1 := ⟨_, rfl⟩
  rw [hw1] at hbox
  have hB1 : Below w.heap.size w w1 := by rw [← hw1]; exact (Below.refl _ _).alloc (Nat.le_refl _) _
  have hsz : w.heap.size < w1.heap.size := by rw [← hw1, World.size_alloc]; omega
  have hg1 : PgAt w1.drew g p := ⟨(hg.below hB1).1, hg.2⟩
  have hS0 : w1.drew.cell? ⟨w.heap.size, 0, none⟩ = some (.slice (some ⟨g, 0, none⟩) 512 512) := hbox
  have hlay := lay_any w1.drew w1.drew.heap.size (.slice none 0 0) [] n (K : Int) K rfl hK8 (OwnB.nil _ _ _) (Nat.le_refl _) (by simp)
  rw [List.nil_append] at hlay
  have hslo := slice_own g A (A + K) (A : Int) ((A : Int) + (K : Int)) rfl (by push_cast; rfl) (by omega) h (by omega)
  rw [show A + K - A = K from by omega] at hslo
  have HL := Lib.hid hlay
  have HG := Lib.hid (And.intro hg1 (And.intro hB1 (And.intro hsz hg.lt)))
  have hA0 : (0 : Int) ≤ (A : Int) := by omega
  have hAK : (A : Int) + (K : Int) ≤ 512 := by omega
  have hAle : (A : Int) ≤ (A : Int) + (K : Int) := by omega
  have hwr : IntKind.i64.wrap ((A : Int) + (K : Int)) = (A : Int) + (K : Int) := by rw [IntKind.wrap_i64]; omega
  have HK := Lib.hid (And.intro h (And.intro hK0 hK8))
  clear hbox hB1 hg1 hlay h hK0 hK8 hsz hg
  go_enter Try.func45, Try.ntmps45
  go_wp2
  go_region_held_law (fun W => W.cell? ⟨w.heap.size, 0, none⟩ = some (.slice (some ⟨g, 0, none⟩) 512 512))
    (first | exact hS2 | exact hS1 | exact hS0)
    (first
      | ((refine step_copy_eq rfl rfl HCR.out rfl rfl ?_; clear HCR))
      | ((go_simp
          go_at_call 54
          refine HL.out.mono ?_
          rintro e W1 ⟨v', rfl, ho1, hb1⟩
          have hS1 := (boxS_keep ⟨hS0, Below.refl _ _⟩ hb1).1
          have hrd : RdB (fun _ => False) W1 v' (leBytes K n) := OwnB.rd ho1 (fun _ _ h => h)
          obtain ⟨W2, r2, hcr, hpg2, hch2⟩ := copy_mid (ty := 3) W1 g A K (512 - A) p (leBytes K n) v' ((HG.out.1).below hb1) hrd (by rw [leBytes_length]; exact Nat.le_refl _) (by rw [leBytes_length]; exact HK.out.1) (.slice (some ⟨g, A, none⟩) K (512 - A)) ⟨fun _ => rfl, _, rfl⟩
          have hS2 := box_chg hS1 hch2 (show ¬ (w.heap.size = g) by have := HG.out.2.2.2; omega)
          have HCR := Lib.hid hcr
          have HP2 := Lib.hid (And.intro hpg2 (And.intro hch2 hb1))
          obtain ⟨va, vn, vc, hvf, hvn, hvn2, hvn3⟩ := hrd.formN
          subst hvf
          clear hrd hcr hpg2 hch2 ho1 hb1 hvn hvn2 hvn3)))
  simp only [Act.put, List.getElem_toArray, List.getElem_cons_succ, List.getElem_cons_zero, List.setIfInBounds_toArray, List.set_cons_zero, List.set_cons_succ]
  go_end0
  have h1 := HP2.out
  have h2 := HG.out
  exact ⟨rfl, h1.1, (Chg.of_below h2.2.1 (G1 g)).trans ((Chg.of_below (below_drewN (Below.refl _ _) 1) _).trans ((Chg.of_below h1.2.2 _).trans h1.2.1))⟩
end Mun
