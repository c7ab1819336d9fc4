/- Texts of mine, one behind the other: P3, P4, PageN, P5. -/
import Derived.Test.YtjfepmohoijalaaMgD
import Derived.Laws.CopyRow
import Derived.Deep.RegionHeldLaw
import Derived.StillTailTactics
import Derived.Lib.SliceRun
section
/- Contracts of what writes into a page of the call's own: put, setSlot, below. -/
set_option maxRecDepth 100000
set_option linter.unusedVariables false
namespace Mun
open Go Go.RowKit
open Go.Proofs

/-- block g holds the bytes p, 512 of them -/
def PgAt (w : World) (g : Nat) (p : List UInt8) : Prop := w.heap[g]? = some (bobj p) ∧ p.length = 512
abbrev PV (g : Nat) : Value := .slice (some ⟨g, 0, none⟩) 512 512
abbrev G1 (g : Nat) : Foot := fun k => k = g

theorem PgAt.lt {w : World} {g : Nat} {p : List UInt8} (h : PgAt w g p) : g < w.heap.size := (Array.getElem?_eq_some_iff.1 h.1).1
theorem PgAt.below {w w' : World} {g : Nat} {p : List UInt8} (h : PgAt w g p) (hb : Below w.heap.size w w') : PgAt w' g p := ⟨(hb.block g h.lt).trans h.1, h.2⟩
theorem PgAt.rd {F : Foot} {w : World} {g : Nat} {p : List UInt8} (h : PgAt w g p) (hF : ¬ F g) : RdB F w (PV g) p := by
  refine ⟨by simp [bv], some ⟨g, 0, none⟩, 512, by rw [h.2], by rw [h.2]; exact Nat.le_refl _, by decide, by simp, fun _ => ⟨g, 0, _, _, _, rfl, hF, h.1, ?_⟩⟩
  simp only [List.drop_zero]
  rw [List.take_of_length_le (by simp [bv])]
theorem PgAt.new (w : World) (p : List UInt8) (hp : p.length = 512) : PgAt (w.alloc (bobj p)) w.heap.size p := ⟨heap_alloc_new w _, hp⟩

theorem bytes_info' : (Try.prog.info? 5).map (·.size) = some 1 := by kernel_rfl

/-- a slice of a page of the call's own -/
theorem slice_own (g lo hi : Nat) (L H : Int) (hL : L = lo) (hH : H = hi) (h1 : lo ≤ hi) (h2 : hi ≤ 512) (hlo : lo < 512) (W : World) :
    (Instr.sliceAt 31 (.slice (some ⟨g, 0, none⟩) 512 512) (some (.int .i64 L)) (some (.int .i64 H)) none).run Try.prog W = .ok (.slice (some ⟨g, lo, none⟩) (hi - lo) (512 - lo)) W := by
  subst hL
  subst hH
  obtain ⟨i, hi', hz, hs1, hs2⟩ := info_of info_u8
  have he : Try.prog.elem 31 = 5 := by kernel_rfl
  have ht : Try.prog.underlying 31 = some (.slice (Try.prog.elem 31)) := by rw [he]; exact Try.underlying31
  rw [run_sliceAt_slice _ _ _ _ _ _ ht, run_slice_lh _ _ _ _ _ ht _ _ _ _ (by omega) (by omega) (by omega), he]
  have hne : ¬ (512 = lo) := by omega
  simp [Go.sizeOf, typeInfo, hi', hs1, sliced, hne, addr_add]

/-- bytes copied into the midst of a page -/
theorem copy_mid {F : Foot} {ty : TypeId} (W : World) (g A n c : Nat) (p ys : List UInt8) (src : Value) (hg : PgAt W g p) (hs : RdB F W src ys) (hn : ys.length ≤ n) (hA : A + ys.length ≤ 512) (dst : Value)
    (hd : (0 < ys.length → dst = .slice (some ⟨g, A, none⟩) n c) ∧ (∃ a, dst = .slice a n c)) :
    ∃ W' r, (Builtin.copy_ #[31, 31] ty #[dst, src]).run Try.prog W = .ok (goInt r) W' ∧ PgAt W' g (putAt p A ys) ∧ Chg (G1 g) (G1 g) W W' := by
  have hpl : (putAt p A ys).length = 512 := by rw [putAt_length _ _ _ (by rw [hg.2]; exact hA)]; exact hg.2
  by_cases h0 : ys.length = 0
  · obtain rfl : ys = [] := List.eq_nil_of_length_eq_zero h0
    obtain ⟨a, c2, rfl, -⟩ := hs.form
    obtain ⟨a2, rfl⟩ := hd.2
    refine ⟨W, 0, run_copy_none (P := Try.prog) _ _ _ ty _ _ _ _ _ _ _ Try.underlying31 bytes_info' (by simp), ?_, Chg.refl _ _⟩
    rw [putAt_nil]
    exact hg
  · obtain ⟨g2, off, c2, rfl, _, _, _, _, hc⟩ := RdV.at_ hs (by omega)
    rw [hd.1 (by omega)]
    have hr := run_copy_row (P := Try.prog) W 31 31 ty 5 g A n c ⟨g2, off, none⟩ ys.length c2 (bv p).toArray 5 (bv ys) Try.underlying31 bytes_info'
      hg.1 (by rw [bv_length]; exact (Nat.min_eq_left hn).symm) (fun j u hu => by rw [addr_add]; exact hc j u hu) (by simp [bv]; rw [hg.2]; exact hA) (bv_oneCell ys)
    refine ⟨_, _, hr, ⟨?_, hpl⟩, ⟨rfl, rfl, rfl, by simp, fun k _ hk => setRow_other _ _ _ _ (fun e => hk e), fun k hk => .inl hk⟩⟩
    have := setRow_heap W g (bv p).toArray (List.take A (bv p).toArray.toList ++ bv ys ++ List.drop (A + (bv ys).length) (bv p).toArray.toList).toArray 5 (0, 0) hg.1
    rw [this]
    simp [bobj, bv, putAt, List.map_take, List.map_drop]

/-- a copy whose run is known, at a step of a region that draws its order -/
theorem step_copy_eq {P : Program} {ops : Array Oper} {o : Oper} {a : Act} {w : World} {K : Act → World → Prop} {Q : Exit → Act → World → Prop} {E : Prop} (hgd : o.guard = none) {s x : Operand} {t u : TypeId}
    (ho : o.op = .call { callee := .builtin .copy, args := #[s, x], argTypes := #[t, u] }) {v sv v' : Value} {w' : World}
    (hr : (Builtin.copy_ #[t, u] o.type #[v, sv]).run P w = .ok v' w') (hs : a.eval s = v) (hx : a.eval x = sv) (h : K (a.put o.dst v') w') :
    if Region.wanted o (yielded ops a.tmps) = true then Oper.wp P o a w K Q else E := by
  have hw : Region.wanted o (yielded ops a.tmps) = true := by simp [Region.wanted, hgd]
  rw [if_pos hw]
  unfold Oper.wp
  simp [execOp, ho, resolve, invoke, builtin, hs, hx, hr, Result.andThen]
  exact h
theorem step_append_eq {P : Program} {ops : Array Oper} {o : Oper} {a : Act} {w : World} {K : Act → World → Prop} {Q : Exit → Act → World → Prop} {E : Prop} (hgd : o.guard = none) {s x : Operand} {t : TypeId}
    (ho : o.op = .call { callee := .builtin .append, args := #[s, x], argTypes := #[t, t] }) {v sv v' : Value} {w' : World}
    (hr : (Builtin.append_ #[t, t] o.type #[v, sv]).run P w = .ok v' w') (hs : a.eval s = v) (hx : a.eval x = sv) (h : K (a.put o.dst v') w') :
    if Region.wanted o (yielded ops a.tmps) = true then Oper.wp P o a w K Q else E := by
  have hw : Region.wanted o (yielded ops a.tmps) = true := by simp [Region.wanted, hgd]
  rw [if_pos hw]
  unfold Oper.wp
  simp [execOp, ho, resolve, invoke, builtin, hs, hx, hr, Result.andThen]
  exact h

theorem box_chg {F F' : Foot} {b : Nat} {v : Value} {W W' : World} (h : W.cell? ⟨b, 0, none⟩ = some v) (hc : Chg F F' W W') (hF : ¬ F b) : W'.cell? ⟨b, 0, none⟩ = some v := by
  obtain ⟨hs, cur, e, fr, hh, hcc⟩ := cell_block h
  have hlt := (Array.getElem?_eq_some_iff.1 hh).1
  have := (hc.block b hlt hF).trans hh
  rw [cell_of_row W' b 0 cur e fr this]
  exact hcc

set_option maxHeartbeats 800000 in
theorem put_any (w : World) (g : Nat) (p : List UInt8) (a k : Int) (A K n : Nat) (hA : a = A) (hK : k = K) (hg : PgAt w g p) (h : A + K ≤ 512) (hK0 : 0 < K) (hK8 : K ≤ 8) :
    Calls Try.prog 45 #[.agg #[PV g], .int .i64 a, .int .i64 k, .int .u64 n] w fun e w' => e = .returned (.tuple #[]) ∧ PgAt w' g (pt p A K n) ∧ Chg (G1 g) (G1 g) w w' := by
  subst hA
  subst hK
  have hbox : (w.alloc (.cells #[.slice (some ⟨g, 0, none⟩) 512 512] 96)).drew.cell? ⟨w.heap.size, 0, none⟩ = some (.slice (some ⟨g, 0, none⟩) 512 512) :=
    cell_of_row (w.alloc (.cells #[.slice (some ⟨g, 0, none⟩) 512 512] 96)) w.heap.size 0 _ _ _ (heap_alloc_new w _)
  obtain ⟨w1, hw1⟩ : ∃ w1, w.alloc (.cells #[.slice (some ⟨g, 0, none⟩) 512 512] 96) = w1 := ⟨_, rfl⟩
  rw [hw1] at hbox
  have hB1 : Below w.heap.size w w1 := by rw [← hw1]; exact (Below.refl _ _).alloc (Nat.le_refl _) _
  have hsz : w.heap.size < w1.heap.size := by rw [← hw1, World.size_alloc]; omega
  have hg1 : PgAt w1.drew g p := ⟨(hg.below hB1).1, hg.2⟩
  have hS0 : w1.drew.cell? ⟨w.heap.size, 0, none⟩ = some (.slice (some ⟨g, 0, none⟩) 512 512) := hbox
  have hlay := lay_any w1.drew w1.drew.heap.size (.slice none 0 0) [] n (K : Int) K rfl hK8 (OwnB.nil _ _ _) (Nat.le_refl _) (by simp)
  rw [List.nil_append] at hlay
  have hslo := slice_own g A (A + K) (A : Int) ((A : Int) + (K : Int)) rfl (by push_cast; rfl) (by omega) h (by omega)
  rw [show A + K - A = K from by omega] at hslo
  have HL := Lib.hid hlay
  have HG := Lib.hid (And.intro hg1 (And.intro hB1 (And.intro hsz hg.lt)))
  have hA0 : (0 : Int) ≤ (A : Int) := by omega
  have hAK : (A : Int) + (K : Int) ≤ 512 := by omega
  have hAle : (A : Int) ≤ (A : Int) + (K : Int) := by omega
  have hwr : IntKind.i64.wrap ((A : Int) + (K : Int)) = (A : Int) + (K : Int) := by rw [IntKind.wrap_i64]; omega
  have HK := Lib.hid (And.intro h (And.intro hK0 hK8))
  clear hbox hB1 hg1 hlay h hK0 hK8 hsz hg
  go_enter Try.func45, Try.ntmps45
  go_wp2
  go_region_held_law (fun W => W.cell? ⟨w.heap.size, 0, none⟩ = some (.slice (some ⟨g, 0, none⟩) 512 512))
    (first | exact hS2 | exact hS1 | exact hS0)
    (first
      | ((refine step_copy_eq rfl rfl HCR.out rfl rfl ?_; clear HCR))
      | ((go_simp
          go_at_call 54
          refine HL.out.mono ?_
          rintro e W1 ⟨v', rfl, ho1, hb1⟩
          have hS1 := (boxS_keep ⟨hS0, Below.refl _ _⟩ hb1).1
          have hrd : RdB (fun _ => False) W1 v' (leBytes K n) := OwnB.rd ho1 (fun _ _ h => h)
          obtain ⟨W2, r2, hcr, hpg2, hch2⟩ := copy_mid (ty := 3) W1 g A K (512 - A) p (leBytes K n) v' ((HG.out.1).below hb1) hrd (by rw [leBytes_length]; exact Nat.le_refl _) (by rw [leBytes_length]; exact HK.out.1) (.slice (some ⟨g, A, none⟩) K (512 - A)) ⟨fun _ => rfl, _, rfl⟩
          have hS2 := box_chg hS1 hch2 (show ¬ (w.heap.size = g) by have := HG.out.2.2.2; omega)
          have HCR := Lib.hid hcr
          have HP2 := Lib.hid (And.intro hpg2 (And.intro hch2 hb1))
          obtain ⟨va, vn, vc, hvf, hvn, hvn2, hvn3⟩ := hrd.formN
          subst hvf
          clear hrd hcr hpg2 hch2 ho1 hb1 hvn hvn2 hvn3)))
  simp only [Act.put, List.getElem_toArray, List.getElem_cons_succ, List.getElem_cons_zero, List.setIfInBounds_toArray, List.set_cons_zero, List.set_cons_succ]
  go_end0
  have h1 := HP2.out
  have h2 := HG.out
  exact ⟨rfl, h1.1, (Chg.of_below h2.2.1 (G1 g)).trans ((Chg.of_below (below_drewN (Below.refl _ _) 1) _).trans ((Chg.of_below h1.2.2 _).trans h1.2.1))⟩
end Mun
end

section
/- Contracts of what writes into a page of the call's own: setSlot, below, anew. -/
set_option maxRecDepth 100000
set_option linter.unusedVariables false
set_option linter.unusedSimpArgs false
namespace Mun
open Go Go.RowKit
open Go.Proofs

/-- b.b[lo:] of a page -/
theorem slice_from (g lo : Nat) (L : Int) (hL : L = lo) (h : lo ≤ 512) :
    ∃ a, (∀ W, (Instr.sliceAt 31 (.slice (some ⟨g, 0, none⟩) 512 512) (some (.int .i64 L)) none none).run Try.prog W = .ok (.slice a (512 - lo) (512 - lo)) W) ∧ (lo < 512 → a = some ⟨g, lo, none⟩) := by
  subst hL
  refine ⟨if 512 = lo then some ⟨g, 0, none⟩ else some ⟨g, lo, none⟩, fun W => ?_, fun hlt => by rw [if_neg (by omega)]⟩
  obtain ⟨i, hi', hz, hs1, hs2⟩ := info_of info_u8
  have he : Try.prog.elem 31 = 5 := by kernel_rfl
  have ht : Try.prog.underlying 31 = some (.slice (Try.prog.elem 31)) := by rw [he]; exact Try.underlying31
  rw [run_sliceAt_slice _ _ _ _ _ _ ht, run_slice_l _ _ _ _ _ ht _ _ (by omega) (by omega), he]
  simp [Go.sizeOf, typeInfo, hi', hs1, sliced, addr_add]

theorem zero_u8 (w : World) : (zeroValue 5).run Try.prog w = .ok (.int .u8 0) w := by
  obtain ⟨i, hi', hz, hs1, hs2⟩ := info_of info_u8
  simp [zeroValue, typeInfo, hi', hz]

theorem bv_zer (n : Nat) : bv (zer n) = List.replicate n (.int .u8 0) := by simp [bv, zer]

/-- clear of a part of a page -/
theorem clear_mid {ty : TypeId} (W : World) (g A n c : Nat) (p : List UInt8) (hg : PgAt W g p) (hn : 0 < n) (hA : A + n ≤ 512) :
    ∃ W', (Builtin.clear_ #[31] ty #[.slice (some ⟨g, A, none⟩) n c]).run Try.prog W = .ok (.tuple #[]) W' ∧ PgAt W' g (putAt p A (zer n)) ∧ Chg (G1 g) (G1 g) W W' := by
  have hpl : (putAt p A (zer n)).length = 512 := by rw [putAt_length _ _ _ (by rw [hg.2]; simpa [zer] using hA)]; exact hg.2
  have hzc : (Builtin.zeroCells (Value.int .u8 0).cells n).toList = bv (zer n) := by
    rw [bv_zer]
    simp only [Builtin.zeroCells, Value.cells]
    apply List.ext_getElem
    · simp
    · intro i h1 h2
      simp [Nat.mod_one]
  have hst := run_storeCells_at Try.prog g A 5 (bv (zer n)) 0 (bv p).toArray W hg.1 (by simp [bv, zer]; rw [hg.2]; exact hA) (bv_oneCell _)
  simp only [Nat.add_zero] at hst
  refine ⟨W.setRow g (List.take A (bv p).toArray.toList ++ bv (zer n) ++ List.drop (A + (bv (zer n)).length) (bv p).toArray.toList).toArray, ?_, ⟨?_, hpl⟩, ⟨rfl, rfl, rfl, by simp, fun k _ hk => setRow_other _ _ _ _ (fun e => hk e), fun k hk => .inl hk⟩⟩
  · obtain ⟨m, rfl⟩ : ∃ m, n = m + 1 := ⟨n - 1, by omega⟩
    simp [Builtin.clear_, run_underlying Try.underlying31, zero_u8, hzc, hst]
  · have := setRow_heap W g (bv p).toArray (List.take A (bv p).toArray.toList ++ bv (zer n) ++ List.drop (A + (bv (zer n)).length) (bv p).toArray.toList).toArray 5 (0, 0) hg.1
    rw [this]
    simp [bobj, bv, putAt, List.map_take, List.map_drop]

/-- a page of the call's own, and the sheet that holds it in a cell -/
structure Bx (w0 w : World) (b g : Nat) (p : List UInt8) : Prop where
  pg : PgAt w g p
  box : w.cell? ⟨b, 0, none⟩ = some (.slice (some ⟨g, 0, none⟩) 512 512)
  ne : b ≠ g
  chg : Chg (G1 g) (G1 g) w0 w
theorem Bx.start {w : World} {g : Nat} {p : List UInt8} (hg : PgAt w g p) : Bx w (w.alloc (.cells #[.slice (some ⟨g, 0, none⟩) 512 512] 96)) w.heap.size g p :=
  ⟨hg.below ((Below.refl _ _).alloc (Nat.le_refl _) _), cell_of_row _ w.heap.size 0 _ _ _ (heap_alloc_new w _), by have := hg.lt; omega, Chg.of_below ((Below.refl _ _).alloc (Nat.le_refl _) _) _⟩
theorem Bx.step {w0 w w' : World} {b g : Nat} {p p' : List UInt8} (h : Bx w0 w b g p) (hp : PgAt w' g p') (hc : Chg (G1 g) (G1 g) w w') : Bx w0 w' b g p' :=
  ⟨hp, box_chg h.box hc h.ne, h.ne, h.chg.trans hc⟩
theorem Bx.below {w0 w w' : World} {b g : Nat} {p : List UInt8} (h : Bx w0 w b g p) (hb : Below w.heap.size w w') : Bx w0 w' b g p := h.step (h.pg.below hb) (Chg.of_below hb _)
theorem Bx.drew {w0 w : World} {b g : Nat} {p : List UInt8} (h : Bx w0 w b g p) (n : Nat) : Bx w0 (w.drewN n) b g p := h.below (below_drewN (Below.refl _ _) n)
theorem Bx.rd {w0 w : World} {b g : Nat} {p : List UInt8} (h : Bx w0 w b g p) {F : Foot} (hF : ¬ F g) : RdB F w (PV g) p := h.pg.rd hF

end Mun
end

section
/- Plain: what the changes of a page come to. No program in sight. -/
set_option linter.unusedVariables false
namespace Mun

def win (p : PBytes) (a n : Nat) : PBytes := (p.drop a).take n
theorem gt_win (p : PBytes) (a n : Nat) : gt p a n = leNat (win p a n) := rfl
theorem win_putAt (p : PBytes) (A : Nat) (bs : PBytes) (a n : Nat) (hl : A + bs.length ≤ p.length) (h : a + n ≤ A ∨ A + bs.length ≤ a) : win (putAt p A bs) a n = win p a n := putAt_window_apart p A bs a n hl h
theorem win_putAt_same (p : PBytes) (A : Nat) (bs : PBytes) (hl : A + bs.length ≤ p.length) : win (putAt p A bs) A bs.length = bs := putAt_take_drop p A bs hl
theorem win_pt (p : PBytes) (A k x a n : Nat) (hl : A + k ≤ p.length) (h : a + n ≤ A ∨ A + k ≤ a) : win (pt p A k x) a n = win p a n :=
  win_putAt p A _ a n (by rw [leBytes_length]; exact hl) (by rw [leBytes_length]; exact h)
theorem win_ss (p : PBytes) (i f z a n : Nat) (hl : 26 + 4 * i + 4 ≤ p.length) (h : a + n ≤ 26 + 4 * i ∨ 26 + 4 * i + 4 ≤ a) : win (ss p i f z) a n = win p a n := by
  unfold ss
  rw [win_pt _ _ _ _ _ _ (by rw [pt_length _ _ _ _ (by omega)]; omega) (by omega), win_pt _ _ _ _ _ _ (by omega) (by omega)]
theorem gt_of_win {p q : PBytes} {a n : Nat} (h : win p a n = win q a n) : gt p a n = gt q a n := by rw [gt_win, gt_win, h]
theorem win_length (p : PBytes) (a n : Nat) (h : a + n ≤ p.length) : (win p a n).length = n := by unfold win; rw [List.length_take, List.length_drop]; omega
theorem cellP_win (p : PBytes) (i : Nat) : cellP p i = win p (sFrom p i) (sSize p i) := rfl

theorem sFrom_ss (p : PBytes) (i f z : Nat) (hl : 26 + 4 * i + 4 ≤ p.length) (hf : f < 65536) : sFrom (ss p i f z) i = f := by
  unfold sFrom ss
  rw [gt_pt_apart _ _ _ _ _ _ (by rw [pt_length _ _ _ _ (by omega)]; omega) (by omega), gt_pt2 _ _ _ (by omega) hf]
theorem sSize_ss (p : PBytes) (i f z : Nat) (hl : 26 + 4 * i + 4 ≤ p.length) (hz : z < 65536) : sSize (ss p i f z) i = z := by
  unfold sSize ss
  rw [gt_pt2 _ _ _ (by rw [pt_length _ _ _ _ (by omega)]; omega) hz]
theorem sFrom_ss_ne (p : PBytes) (i j f z : Nat) (hl : 26 + 4 * i + 4 ≤ p.length) (h : j ≠ i) : sFrom (ss p i f z) j = sFrom p j := by
  unfold sFrom
  exact gt_of_win (win_ss _ _ _ _ _ _ hl (by omega))
theorem sSize_ss_ne (p : PBytes) (i j f z : Nat) (hl : 26 + 4 * i + 4 ≤ p.length) (h : j ≠ i) : sSize (ss p i f z) j = sSize p j := by
  unfold sSize
  exact gt_of_win (win_ss _ _ _ _ _ _ hl (by omega))
theorem sFrom_putAt (p : PBytes) (A : Nat) (bs : PBytes) (j : Nat) (hl : A + bs.length ≤ p.length) (h : 26 + 4 * j + 4 ≤ A) : sFrom (putAt p A bs) j = sFrom p j := gt_of_win (win_putAt _ _ _ _ _ hl (by omega))
theorem sSize_putAt (p : PBytes) (A : Nat) (bs : PBytes) (j : Nat) (hl : A + bs.length ≤ p.length) (h : 26 + 4 * j + 4 ≤ A) : sSize (putAt p A bs) j = sSize p j := gt_of_win (win_putAt _ _ _ _ _ hl (by omega))
theorem sFrom_pt (p : PBytes) (A k x j : Nat) (hl : A + k ≤ p.length) (h : 26 + 4 * j + 4 ≤ A ∨ A + k ≤ 26) : sFrom (pt p A k x) j = sFrom p j := gt_of_win (win_pt _ _ _ _ _ _ hl (by omega))
theorem sSize_pt (p : PBytes) (A k x j : Nat) (hl : A + k ≤ p.length) (h : 26 + 4 * j + 4 ≤ A ∨ A + k ≤ 26) : sSize (pt p A k x) j = sSize p j := gt_of_win (win_pt _ _ _ _ _ _ hl (by omega))

theorem szs_mono (p : PBytes) {i j : Nat} (h : i ≤ j) : szs p i ≤ szs p j := by
  induction j with
  | zero => obtain rfl : i = 0 := by omega
            exact Nat.le_refl _
  | succ j ih =>
    rcases Nat.lt_or_eq_of_le h with h | rfl
    · have := ih (by omega)
      show szs p i ≤ szs p j + sSize p j
      omega
    · exact Nat.le_refl _
theorem szs_congr {p q : PBytes} : ∀ {k : Nat}, (∀ j, j < k → sSize p j = sSize q j) → szs p k = szs q k
  | 0, _ => rfl
  | k + 1, h => by
    show szs p k + sSize p k = szs q k + sSize q k
    rw [szs_congr (fun j hj => h j (by omega)), h k (by omega)]

/-- what anew wants of a page -/
structure AnewOk (p : PBytes) : Prop where
  len : p.length = 512
  fit : 26 + 4 * cnt p + szs p (cnt p) ≤ 512
  cell : ∀ i, i < cnt p → sFrom p i + sSize p i ≤ 512

/-- the first k cells laid anew -/
structure AnewI (p : PBytes) (k : Nat) (q : PBytes) : Prop where
  len : q.length = 512
  head : ∀ a n, a + n ≤ 26 → win q a n = win p a n
  old : ∀ j, k ≤ j → j < cnt p → sFrom q j = sFrom p j ∧ sSize q j = sSize p j
  from_ : ∀ j, j < k → sFrom q j = 512 - szs p (j + 1)
  size : ∀ j, j < k → sSize q j = sSize p j
  cell : ∀ j, j < k → win q (512 - szs p (j + 1)) (sSize p j) = cellP p j
  mid : ∀ a n, 26 + 4 * cnt p ≤ a → a + n ≤ 512 - szs p k → win q a n = win p a n

theorem cellP_length {p : PBytes} (h : AnewOk p) {k : Nat} (hk : k < cnt p) : (cellP p k).length = sSize p k := by
  have := h.cell k hk
  have := h.len
  unfold cellP
  rw [List.length_take, List.length_drop]
  omega

theorem anewS_inv {p : PBytes} (h : AnewOk p) : ∀ k, k ≤ cnt p → AnewI p k (anewS p k)
  | 0, _ => ⟨h.len, fun _ _ _ => rfl, fun _ _ _ => ⟨rfl, rfl⟩, fun j hj => by omega, fun j hj => by omega, fun j hj => by omega, fun _ _ _ _ => rfl⟩
  | k + 1, hk => by
    have ih := anewS_inv h k (by omega)
    have h1 : szs p (k + 1) ≤ szs p (cnt p) := szs_mono p hk
    have h2 : szs p (k + 1) = szs p k + sSize p k := rfl
    have hl := cellP_length h (show k < cnt p by omega)
    have hfit := h.fit
    obtain ⟨d, hd⟩ : ∃ d, 512 - szs p (k + 1) = d := ⟨_, rfl⟩
    have hdl : d + (cellP p k).length ≤ (anewS p k).length := by rw [ih.len, hl]; omega
    have hpl : (putAt (anewS p k) d (cellP p k)).length = 512 := by rw [putAt_length _ _ _ hdl, ih.len]
    have e : anewS p (k + 1) = ss (putAt (anewS p k) d (cellP p k)) k d (sSize p k) := by rw [← hd]; rfl
    have hss : 26 + 4 * k + 4 ≤ (putAt (anewS p k) d (cellP p k)).length := by omega
    have hck := h.cell k (by omega)
    have hsk : sSize p k < 65536 := gt2_lt p _
    rw [e]
    refine ⟨by rw [ss_length _ _ _ _ hss, hpl], fun a n han => ?_, fun j h3 h4 => ?_, fun j hj => ?_, fun j hj => ?_, fun j hj => ?_, fun a n h3 h4 => ?_⟩
    · rw [win_ss _ _ _ _ _ _ hss (by omega), win_putAt _ _ _ _ _ hdl (by omega), ih.head a n han]
    · rw [sFrom_ss_ne _ _ _ _ _ hss (by omega), sSize_ss_ne _ _ _ _ _ hss (by omega), sFrom_putAt _ _ _ _ hdl (by omega), sSize_putAt _ _ _ _ hdl (by omega)]
      exact ih.old j (by omega) h4
    · by_cases hjk : j = k
      · subst hjk
        rw [sFrom_ss _ _ _ _ hss (by omega), hd]
      · rw [sFrom_ss_ne _ _ _ _ _ hss hjk, sFrom_putAt _ _ _ _ hdl (by omega), ih.from_ j (by omega)]
    · by_cases hjk : j = k
      · subst hjk
        rw [sSize_ss _ _ _ _ hss hsk]
      · rw [sSize_ss_ne _ _ _ _ _ hss hjk, sSize_putAt _ _ _ _ hdl (by omega), ih.size j (by omega)]
    · by_cases hjk : j = k
      · subst hjk
        rw [hd, win_ss _ _ _ _ _ _ hss (by omega)]
        have := win_putAt_same _ _ _ hdl
        rw [hl] at this
        exact this
      · have h5 : szs p (j + 1) ≤ szs p k := szs_mono p (by omega)
        have h6 : szs p (j + 1) = szs p j + sSize p j := rfl
        rw [win_ss _ _ _ _ _ _ hss (by omega), win_putAt _ _ _ _ _ hdl (by omega), ih.cell j (by omega)]
    · rw [win_ss _ _ _ _ _ _ hss (by omega), win_putAt _ _ _ _ _ hdl (by omega), ih.mid a n h3 (by omega)]

theorem zer_length (n : Nat) : (zer n).length = n := by simp [zer]

/-- a page laid out anew -/
structure AnewD (p q : PBytes) : Prop where
  len : q.length = 512
  head : ∀ a n, a + n ≤ 16 ∨ (18 ≤ a ∧ a + n ≤ 26) → win q a n = win p a n
  low : lowP q = 512 - szs p (cnt p)
  cnt : cnt q = cnt p
  from_ : ∀ j, j < Mun.cnt p → sFrom q j = 512 - szs p (j + 1)
  size : ∀ j, j < Mun.cnt p → sSize q j = sSize p j
  cell : ∀ j, j < Mun.cnt p → cellP q j = cellP p j
  zero : win q (26 + 4 * Mun.cnt p) (512 - szs p (Mun.cnt p) - (26 + 4 * Mun.cnt p)) = zer (512 - szs p (Mun.cnt p) - (26 + 4 * Mun.cnt p))

theorem anewP_inv {p : PBytes} (h : AnewOk p) : AnewD p (anewP p) := by
  have hi := anewS_inv h (cnt p) (Nat.le_refl _)
  have hfit := h.fit
  obtain ⟨n, hn⟩ : ∃ n, cnt p = n := ⟨_, rfl⟩
  obtain ⟨lo, hlo⟩ : ∃ lo, 512 - szs p n = lo := ⟨_, rfl⟩
  rw [hn] at hfit hi
  have e : anewP p = pt (putAt (anewS p n) (26 + 4 * n) (zer (lo - (26 + 4 * n)))) 16 2 lo := by unfold anewP; rw [hn, hlo]
  have hzl : 26 + 4 * n + (zer (lo - (26 + 4 * n))).length ≤ (anewS p n).length := by rw [hi.len, zer_length]; omega
  have hpl : (putAt (anewS p n) (26 + 4 * n) (zer (lo - (26 + 4 * n)))).length = 512 := by rw [putAt_length _ _ _ hzl, hi.len]
  have hz := zer_length (lo - (26 + 4 * n))
  have hcnt : cnt (anewP p) = n := by
    rw [e]
    have h1 : win (pt (putAt (anewS p n) (26 + 4 * n) (zer (lo - (26 + 4 * n)))) 16 2 lo) 14 2 = win p 14 2 := by
      rw [win_pt _ _ _ _ _ _ (by omega) (by omega), win_putAt _ _ _ _ _ hzl (by omega), hi.head _ _ (by omega)]
    show gt _ 14 2 = n
    rw [gt_of_win h1]
    exact hn
  refine ⟨by rw [e, pt_length _ _ _ _ (by omega), hpl], fun a m ham => ?_, ?_, by rw [hcnt, hn], fun j hj => ?_, fun j hj => ?_, fun j hj => ?_, ?_⟩
  · rw [e, win_pt _ _ _ _ _ _ (by omega) (by omega), win_putAt _ _ _ _ _ hzl (by omega), hi.head _ _ (by omega)]
  · rw [e, hn, hlo]
    show gt _ 16 2 = lo
    rw [gt_pt2 _ _ _ (by omega) (by omega)]
  · rw [hn] at hj
    rw [e, sFrom_pt _ _ _ _ _ (by omega) (by omega), sFrom_putAt _ _ _ _ hzl (by omega), hi.from_ j hj]
  · rw [hn] at hj
    rw [e, sSize_pt _ _ _ _ _ (by omega) (by omega), sSize_putAt _ _ _ _ hzl (by omega), hi.size j hj]
  · rw [hn] at hj
    have h5 : szs p (j + 1) ≤ szs p n := szs_mono p (by omega)
    have h6 : szs p (j + 1) = szs p j + sSize p j := rfl
    have h7 : cellP (anewP p) j = win (anewP p) (512 - szs p (j + 1)) (sSize p j) := by
      rw [cellP_win, e, sFrom_pt _ _ _ _ _ (by omega) (by omega), sFrom_putAt _ _ _ _ hzl (by omega), hi.from_ j hj, sSize_pt _ _ _ _ _ (by omega) (by omega), sSize_putAt _ _ _ _ hzl (by omega), hi.size j hj]
    rw [h7, e, win_pt _ _ _ _ _ _ (by omega) (by omega), win_putAt _ _ _ _ _ hzl (by omega), hi.cell j hj]
  · rw [hn, hlo, e, win_pt _ _ _ _ _ _ (by omega) (by omega)]
    have := win_putAt_same _ _ _ hzl
    rw [hz] at this
    exact this
end Mun
end

section
/- Contract of anew: a page's cells laid out anew. -/
set_option maxRecDepth 100000
set_option linter.unusedVariables false
set_option linter.unusedSimpArgs false
namespace Mun
open Go Go.RowKit
open Go.Proofs

theorem clear_any {ty : TypeId} (W : World) (g A n c : Nat) (p : List UInt8) (hg : PgAt W g p) (hA : A + n ≤ 512) :
    ∃ W', (Builtin.clear_ #[31] ty #[.slice (some ⟨g, A, none⟩) n c]).run Try.prog W = .ok (.tuple #[]) W' ∧ PgAt W' g (putAt p A (zer n)) ∧ Chg (G1 g) (G1 g) W W' := by
  rcases Nat.eq_zero_or_pos n with rfl | hn
  · refine ⟨W, ?_, ?_, Chg.refl _ _⟩
    · simp [Builtin.clear_, run_underlying Try.underlying31, zero_u8]
    · rw [show zer 0 = [] from rfl, putAt_nil]; exact hg
  · exact clear_mid W g A n c p hg hn hA


theorem anewS_length (p : PBytes) (hp : p.length = 512) (n : Nat) (hn : 26 + 4 * n ≤ 512) (hs : szs p n ≤ 512) (hc : ∀ i, i < n → sFrom p i + sSize p i ≤ 512) : ∀ k, k ≤ n → (anewS p k).length = 512
  | 0, _ => hp
  | k + 1, hk => by
    have ih := anewS_length p hp n hn hs hc k (by omega)
    have h1 : szs p (k + 1) ≤ szs p n := szs_mono p hk
    have h2 : szs p (k + 1) = szs p k + sSize p k := rfl
    have h3 := hc k (by omega)
    have hl : (cellP p k).length = sSize p k := by unfold cellP; rw [List.length_take, List.length_drop]; omega
    have h4 : (putAt (anewS p k) (512 - szs p (k + 1)) (cellP p k)).length = 512 := by rw [putAt_length _ _ _ (by rw [hl]; omega), ih]
    unfold anewS
    rw [ss_length _ _ _ _ (by omega), h4]

/-- a round of anew stands so -/
structure AnewR (w1 wr : World) (b g b2 : Nat) (vold : Value) (p : PBytes) (k : Nat) : Prop where
  bx : Bx w1 wr b g (anewS p k)
  old : wr.cell? ⟨b2, 0, none⟩ = some vold
  rd : RdB (G1 g) wr vold p

end Mun
end
