/- The reference's copied: a table in new memory. -/
import Derived.Test.YtbdkhegfmnladaaRfJ
set_option maxRecDepth 100000
set_option linter.unusedVariables false
set_option linter.unusedSimpArgs false
namespace Mun
open Go Go.RowKit
open Go.Proofs

theorem copy_gr {F : Foot} {w : World} {v : Value} {l : List (Int × Int)} (ty : TypeId) (h : GAt F w v l) (hl : l.length ≤ 1048576) :
    ∃ a c w', (Builtin.append_ #[96, 96] ty #[.slice none 0 0, v]).run Try.prog w = .ok (.slice a l.length c) w' ∧
      w'.ownsRow w.heap.size 103 2 (.slice a l.length c) l.length (gC l) ∧ Below w.heap.size w w' := by
  obtain ⟨a, c, w', hr, ho, hg, hob⟩ := app_rw (ty := ty) (B := 0) info_gC Try.underlying96 rfl (by decide) (by decide) (World.ownsRow_nil w 0 _ _) h.rd (gC_one l) (Nat.zero_le _) (by omega)
  simp only [Nat.zero_add, List.nil_append] at hr ho hob
  refine ⟨a, c, w', hr, ownsRow_base ho (fun k hk => ?_), ⟨hg.os, hg.tape, hg.output, hg.size, fun k hk => hg.block k hk (fun e => by have e9 : some k = (none : Option Nat) := e; cases e9)⟩⟩
  rcases hob k hk with h9 | h9
  · have e9 : (none : Option Nat) = some k := h9
    cases e9
  · exact h9

/-- names, holders, queues -/
def pX (X : List LX) : List (ByteArray × List (Int × Int) × List (Int × Int)) := X.map fun x => (x.name, x.hs, x.qs)
def LX.bl (x : LX) : List Nat := x.hv.ownBlock.toList ++ x.qv.ownBlock.toList
def blX (X : List LX) : List Nat := X.flatMap LX.bl
theorem mem_blX {X : List LX} {k : Nat} : k ∈ blX X ↔ ∃ x ∈ X, x.hv.ownBlock = some k ∨ x.qv.ownBlock = some k := by
  unfold blX
  rw [List.mem_flatMap]
  constructor
  · rintro ⟨x, hx, h⟩
    refine ⟨x, hx, ?_⟩
    unfold LX.bl at h
    rcases List.mem_append.1 h with h | h
    · exact .inl (Option.mem_toList.1 h)
    · exact .inr (Option.mem_toList.1 h)
  · rintro ⟨x, hx, h⟩
    refine ⟨x, hx, ?_⟩
    unfold LX.bl
    rcases h with h | h
    · exact List.mem_append_left _ (Option.mem_toList.2 h)
    · exact List.mem_append_right _ (Option.mem_toList.2 h)
theorem toList_nodup (o : Option Nat) : o.toList.Nodup := by cases o <;> simp
theorem blX_push {X : List LX} {x : LX} {N0 N1 : Nat} (h : (blX X).Nodup) (h0 : ∀ k ∈ blX X, k < N0) (h1 : ∀ k, x.hv.ownBlock = some k → N0 ≤ k ∧ k < N1) (h2 : ∀ k, x.qv.ownBlock = some k → N0 ≤ k ∧ N1 ≤ k) : (blX (X ++ [x])).Nodup := by
  have e : blX (X ++ [x]) = blX X ++ x.bl := by simp [blX]
  rw [e, List.nodup_append]
  refine ⟨h, ?_, fun a ha b hb e => ?_⟩
  · unfold LX.bl
    rw [List.nodup_append]
    refine ⟨toList_nodup _, toList_nodup _, fun a ha b hb e => ?_⟩
    have := h1 a (Option.mem_toList.1 ha)
    have := h2 b (Option.mem_toList.1 hb)
    omega
  · have := h0 a ha
    unfold LX.bl at hb
    rcases List.mem_append.1 hb with hb | hb
    · have := h1 b (Option.mem_toList.1 hb); omega
    · have := h2 b (Option.mem_toList.1 hb); omega

/-- a table in new memory, each row by itself -/
structure TabO (B : Nat) (w : World) (v : Value) (X : List LX) : Prop where
  row : w.ownsRow B 98 3 v X.length (lxC X)
  hr : ∀ x ∈ X, w.ownsRow B 103 2 x.hv x.hs.length (gC x.hs)
  qr : ∀ x ∈ X, w.ownsRow B 103 2 x.qv x.qs.length (gC x.qs)
  nd : (blX X).Nodup
section
variable {B : Nat} {w w' : World} {v : Value} {X : List LX}
theorem TabO.nil (B : Nat) (w : World) : TabO B w (.slice none 0 0) [] := ⟨World.ownsRow_nil _ _ _ _, fun x h => (by cases h), fun x h => (by cases h), List.nodup_nil⟩
theorem TabO.lt (h : TabO B w v X) : ∀ k ∈ blX X, k < w.heap.size := fun k hk => by
  obtain ⟨x, hx, h9 | h9⟩ := mem_blX.1 hk
  · exact ((h.hr x hx).lt k h9).2
  · exact ((h.qr x hx).lt k h9).2
theorem TabO.keep (h : TabO B w v X) (hk : ∀ k, k < w.heap.size → B ≤ k → w'.heap[k]? = w.heap[k]?) : TabO B w' v X :=
  ⟨rowU_keep h.row (fun k e => hk k (h.row.lt k e).2 (h.row.lt k e).1), fun x hx => rowU_keep (h.hr x hx) (fun k e => hk k ((h.hr x hx).lt k e).2 ((h.hr x hx).lt k e).1), fun x hx => rowU_keep (h.qr x hx) (fun k e => hk k ((h.qr x hx).lt k e).2 ((h.qr x hx).lt k e).1), h.nd⟩
theorem TabO.below (h : TabO B w v X) (hb : Below w.heap.size w w') : TabO B w' v X := h.keep (fun k hk _ => hb.block k hk)
theorem TabO.base {B' : Nat} (h : TabO B w v X) (hB : B' ≤ B) : TabO B' w v X :=
  ⟨rowU_mono' h.row hB, fun x hx => rowU_mono' (h.hr x hx) hB, fun x hx => rowU_mono' (h.qr x hx) hB, h.nd⟩
theorem TabO.tabF {F : Foot} (h : TabO B w v X) (hF : ∀ k, B ≤ k → ¬ F k) : TabF F w v X :=
  ⟨RdV.of_own h.row hF, fun x hx => GAt.of_own (h.hr x hx) (fun k hk => hF k ((h.hr x hx).lt k hk).1), fun x hx => GAt.of_own (h.qr x hx) (fun k hk => hF k ((h.qr x hx).lt k hk).1)⟩
theorem TabO.push (h : TabO B w v X) (nm : ByteArray) (hs qs : List (Int × Int)) (ha : Option Addr) (hn hc : Nat) (qa : Option Addr) (qn qc : Nat)
    (h1 : w.ownsRow B 103 2 (.slice ha hn hc) hs.length (gC hs)) (h2 : w.ownsRow B 103 2 (.slice qa qn qc) qs.length (gC qs))
    (hnd : (blX (X ++ [⟨nm, hs, qs, .slice ha hn hc, .slice qa qn qc⟩])).Nodup) (hB : B ≤ w.heap.size) (hl : X.length ≤ 1048576) :
    ∃ R c w', (Builtin.append_ #[49, 49] 49 #[v, .slice (some ⟨w.heap.size, 0, none⟩) 1 1]).run Try.prog (w.alloc (.cells #[.string nm, .slice ha hn hc, .slice qa qn qc] 98)) = .ok (.slice (some ⟨R, 0, none⟩) (X.length + 1) c) w' ∧
      TabO B w' (.slice (some ⟨R, 0, none⟩) (X.length + 1) c) (X ++ [⟨nm, hs, qs, .slice ha hn hc, .slice qa qn qc⟩]) ∧ w.grownBy w' v.ownBlock ∧ (v.ownBlock = some R ∨ w.heap.size ≤ R) := by
  obtain ⟨R, c, w', hr, ho, hg, hob⟩ := push_rw (ty := 49) info_lx Try.underlying49 rfl (by decide) (by decide) h.row #[.string nm, .slice ha hn hc, .slice qa qn qc] rfl (by intro u hu; simp at hu; rcases hu with rfl | rfl | rfl <;> rfl) hB (by omega)
  have hlx : lxC X ++ (#[Value.string nm, .slice ha hn hc, .slice qa qn qc]).toList = lxC (X ++ [⟨nm, hs, qs, .slice ha hn hc, .slice qa qn qc⟩]) := by simp [lxC, LX.cells]
  rw [hlx] at ho
  have hkp : ∀ {u : Value} {n : Nat} {xs : List Value}, w.ownsRow B 103 2 u n xs → w'.ownsRow B 103 2 u n xs := fun {u n xs} hu =>
    rowU_keep hu (fun k hk => hg.block k (hu.lt k hk).2 (fun e => row_apart hu h.row (by decide) k hk e.symm))
  refine ⟨R, c, w', hr, ⟨by rw [List.length_append]; exact ho, fun y hy => ?_, fun y hy => ?_, hnd⟩, hg, hob⟩
  · rcases List.mem_append.1 hy with h9 | h9
    · exact hkp (h.hr y h9)
    · rw [List.mem_singleton] at h9; subst h9; exact hkp h1
  · rcases List.mem_append.1 hy with h9 | h9
    · exact hkp (h.qr y h9)
    · rw [List.mem_singleton] at h9; subst h9; exact hkp h2
end
theorem pX_take {X : List LX} {i : Nat} (hi : i < X.length) : pX (X.take (i + 1)) = pX (X.take i) ++ [(X[i].name, X[i].hs, X[i].qs)] := by
  unfold pX
  rw [List.take_add_one, List.getElem?_eq_getElem hi, Option.toList_some, List.map_append]; rfl
theorem pX_len {X X' : List LX} (h : pX X = pX X') : X.length = X'.length := by
  have := congrArg List.length h
  simpa [pX] using this

/-- within copied's loop -/
structure CpR (w : World) (v : Value) (wr : World) (v2 : Value) (X2 : List LX) : Prop where
  bl : Below w.heap.size w wr
  k0 : wr.heap[w.heap.size]? = some (.cells #[v] 51 (0, 0))
  k1 : wr.heap[w.heap.size + 1]? = some (.cells #[.slice none 0 0] 51 (0, 0))
  k2 : wr.heap[w.heap.size + 1 + 1]? = some (.cells #[v2] 51 (0, 0))
  tb : TabO (w.heap.size + 1 + 1 + 1) wr v2 X2
theorem CpR.below {w wr w' : World} {v v2 : Value} {X2 : List LX} (h : CpR w v wr v2 X2) (hb : Below wr.heap.size wr w') : CpR w v w' v2 X2 :=
  ⟨h.bl.trans (hb.mono h.bl.size), (hb.block _ (lt_of_block h.k0)).trans h.k0, (hb.block _ (lt_of_block h.k1)).trans h.k1, (hb.block _ (lt_of_block h.k2)).trans h.k2, h.tb.below hb⟩

def CpPost (w : World) (X : List LX) (e : Ending) (w' : World) : Prop := ∃ v' X', e = .returned (.agg #[v']) ∧ pX X' = pX X ∧ TabO w.heap.size w' v' X' ∧ Below w.heap.size w w'

set_option maxHeartbeats 4000000 in
theorem r14_copied {F : Foot} (w : World) (v : Value) (X : List LX) (h : TabF F w v X) (hsz : XSz X 1048576) :
    Calls Try.prog 46 #[.agg #[v]] w (CpPost w X) := by
  obtain ⟨ha, hc, rfl, -, -⟩ := h.row.form
  obtain ⟨n, hn⟩ : ∃ n, X.length = n := ⟨_, rfl⟩
  rw [hn] at h ⊢
  obtain ⟨wb, hwb⟩ : ∃ wb, ((w.alloc (.cells #[.slice ha n hc] 51)).alloc (.cells #[.slice none 0 0] 51)).alloc (.cells #[.slice none 0 0] 51) = wb := ⟨_, rfl⟩
  have hbb : Below w.heap.size w wb := by rw [← hwb]; exact below_more (below_more (below_more (Below.refl _ _) _) _) _
  have s1 : (w.alloc (.cells #[.slice ha n hc] 51)).heap.size = w.heap.size + 1 := World.size_alloc _ _
  have s2 : ((w.alloc (.cells #[.slice ha n hc] 51)).alloc (.cells #[.slice none 0 0] 51)).heap.size = w.heap.size + 1 + 1 := by rw [World.size_alloc, s1]
  have kb0 : wb.heap[w.heap.size]? = some (.cells #[.slice ha n hc] 51 (0, 0)) := by
    rw [← hwb, heap_alloc_old _ _ (by rw [s2]; omega), heap_alloc_old _ _ (by rw [s1]; omega)]; exact heap_alloc_new w _
  have kb1 : wb.heap[w.heap.size + 1]? = some (.cells #[.slice none 0 0] 51 (0, 0)) := by
    rw [← hwb, heap_alloc_old _ _ (by rw [s2]; omega), ← s1]; exact heap_alloc_new _ _
  have kb2 : wb.heap[w.heap.size + 1 + 1]? = some (.cells #[.slice none 0 0] 51 (0, 0)) := by
    rw [← hwb, ← s2]; exact heap_alloc_new _ _
  have hst : CpR w (.slice ha n hc) wb (.slice none 0 0) [] := ⟨hbb, kb0, kb1, kb2, TabO.nil _ _⟩
  have HST := Lib.hid hst
  have HX := Lib.hid (And.intro h (And.intro hn hsz))
  clear h hn hsz hbb s1 s2 kb0 kb1 kb2 hst
  go_enter Try.func46, Try.ntmps46
  go_wp2_with fail
  go_loopw [4] (fun iv wr => ∃ (i : Nat) (X2 : List LX) (a2 : Option Addr) (n2 c2 : Nat), iv = .int .i64 i ∧ i ≤ n ∧ n2 = i ∧ X2.length = n2 ∧ pX X2 = pX (X.take i) ∧ CpR w (.slice ha n hc) wr (.slice a2 n2 c2) X2) (fun iv _ => n - (Go.RowKit.intOf iv).toNat)
  case atStart => exact ⟨0, [], none, 0, 0, rfl, Nat.zero_le _, rfl, rfl, rfl, by first | exact HST.out | (rw [hwb]; exact HST.out)⟩
  case round =>
    obtain ⟨i, X2, a2, n2, c2, rfl, hin, hni, hl2, hp2, hR⟩ := hrel
    have z0 : wr.cell? ⟨w.heap.size, 0, none⟩ = some (.slice ha n hc) := cell_of_row wr w.heap.size 0 _ _ _ hR.k0
    by_cases hlt : i < n
    · have hil : i < X.length := by rw [HX.out.2.1]; exact hlt
      obtain ⟨g, off, rfl, hco⟩ := HX.out.1.at_ HX.out.2.1 i hil
      have hxm := List.getElem_mem hil
      have hpt := pX_take hil
      have htm := tot_mem hxm
      obtain ⟨x, hx⟩ : ∃ x, X[i] = x := ⟨_, rfl⟩
      rw [hx] at hco hxm hpt htm
      have hth : x.hs.length ≤ 1048576 ∧ x.qs.length ≤ 1048576 := by have := HX.out.2.2.tt; omega
      have hbd : Below wr.heap.size wr wr.drew := below_drewN (Below.refl _ _) 1
      have hRd := hR.below hbd
      have hgh := (HX.out.1.hr x hxm).below hRd.bl
      have hgq := (HX.out.1.qr x hxm).below hRd.bl
      obtain ⟨pa, pc, hpv, -, -⟩ := hgh.form
      obtain ⟨qa, qc, hqv, -, -⟩ := hgq.form
      obtain ⟨a4, c4, w4, hr4, ho4, hb4⟩ := copy_gr 96 hgh hth.1
      obtain ⟨a5, c5, w5, hr5, ho5, hb5⟩ := copy_gr 96 (hgq.below hb4) hth.2
      rw [hpv] at hr4
      rw [hqv] at hr5
      rw [hpv, hqv] at hco
      have hR4 := hRd.below hb4
      have hR5 := hR4.below hb5
      have hB3 : w.heap.size + 1 + 1 + 1 ≤ wr.drew.heap.size := lt_of_block hRd.k2
      have ho4' := rowU_keep ho4 (fun k hk => hb5.block k (ho4.lt k hk).2)
      obtain ⟨xs, hxs⟩ : ∃ xs, x.name = xs := ⟨_, rfl⟩
      obtain ⟨hs, hhs⟩ : ∃ hs, x.hs = hs := ⟨_, rfl⟩
      obtain ⟨qs, hqs⟩ : ∃ qs, x.qs = qs := ⟨_, rfl⟩
      rw [hxs] at hco
      rw [hxs, hhs, hqs] at hpt
      rw [hhs] at hr4 ho4 ho4' hco
      rw [hqs] at hr5 ho5 hco
      obtain ⟨hn4, hhn⟩ : ∃ hn4, hs.length = hn4 := ⟨_, rfl⟩
      obtain ⟨qn5, hqn⟩ : ∃ qn5, qs.length = qn5 := ⟨_, rfl⟩
      have hnd : (blX (X2 ++ [⟨xs, hs, qs, .slice a4 hn4 c4, .slice a5 qn5 c5⟩])).Nodup := by
        refine blX_push (N0 := wr.drew.heap.size) (N1 := w4.heap.size) hR.tb.nd hRd.tb.lt (fun k hk => ?_) (fun k hk => ?_)
        · rw [← hhn] at hk; exact ho4.lt k hk
        · rw [← hqn] at hk; exact ⟨Nat.le_trans hb4.size (ho5.lt k hk).1, (ho5.lt k hk).1⟩
      obtain ⟨R, c6, w6, hr6, hT6, hg6, hob6⟩ := hR5.tb.push xs hs qs a4 hn4 c4 a5 qn5 c5 (by rw [← hhn]; exact rowU_mono' ho4' hB3) (by rw [← hqn]; exact rowU_mono' ho5 (Nat.le_trans hB3 hb4.size)) hnd (Nat.le_trans hB3 (Nat.le_trans hb4.size hb5.size)) (by rw [hl2, hni]; have := HX.out.2.1; have := HX.out.2.2.ln; omega)
      rw [hl2] at hr6 hT6
      rw [hhn] at hr4 hco
      rw [hqn] at hr5 hco
      obtain ⟨k0, k1, k2⟩ := hco wr.drew hRd.bl
      obtain ⟨k0', k1', k2'⟩ := hco w4 hR4.bl
      obtain ⟨k0'', k1'', k2''⟩ := hco w5 hR5.bl
      have hgl := lt_of_block hR5.k2
      have hb6 : Below w5.heap.size w5 (w5.alloc (.cells #[.string xs, .slice a4 hn4 c4, .slice a5 qn5 c5] 98)) := (Below.refl _ _).alloc (Nat.le_refl _) _
      have hR6 := hR5.below hb6
      obtain ⟨k0a, k1a, k2a⟩ := hco _ hR6.bl
      have hS0 : wr.drew.cell? ⟨w.heap.size, 0, none⟩ = some (.slice (some ⟨g, off, none⟩) n hc) ∧ wr.drew.cell? ⟨w.heap.size + 1 + 1, 0, none⟩ = some (.slice a2 n2 c2) ∧ wr.drew.cell? ⟨g, off + i * 3, none⟩ = some (.string xs) ∧ wr.drew.cell? ⟨g, off + i * 3 + 1, none⟩ = some (.slice pa hn4 pc) ∧ wr.drew.cell? ⟨g, off + i * 3 + 2, none⟩ = some (.slice qa qn5 qc) := ⟨z0, cell_of_row wr.drew _ 0 _ _ _ hRd.k2, k0, k1, k2⟩
      have hS4 : w4.cell? ⟨w.heap.size, 0, none⟩ = some (.slice (some ⟨g, off, none⟩) n hc) ∧ w4.cell? ⟨w.heap.size + 1 + 1, 0, none⟩ = some (.slice a2 n2 c2) ∧ w4.cell? ⟨g, off + i * 3, none⟩ = some (.string xs) ∧ w4.cell? ⟨g, off + i * 3 + 1, none⟩ = some (.slice pa hn4 pc) ∧ w4.cell? ⟨g, off + i * 3 + 2, none⟩ = some (.slice qa qn5 qc) := ⟨cell_of_row w4 _ 0 _ _ _ hR4.k0, cell_of_row w4 _ 0 _ _ _ hR4.k2, k0', k1', k2'⟩
      have hS5 : w5.cell? ⟨w.heap.size, 0, none⟩ = some (.slice (some ⟨g, off, none⟩) n hc) ∧ w5.cell? ⟨w.heap.size + 1 + 1, 0, none⟩ = some (.slice a2 n2 c2) ∧ w5.cell? ⟨g, off + i * 3, none⟩ = some (.string xs) ∧ w5.cell? ⟨g, off + i * 3 + 1, none⟩ = some (.slice pa hn4 pc) ∧ w5.cell? ⟨g, off + i * 3 + 2, none⟩ = some (.slice qa qn5 qc) := ⟨cell_of_row w5 _ 0 _ _ _ hR5.k0, cell_of_row w5 _ 0 _ _ _ hR5.k2, k0'', k1'', k2''⟩
      have hS6 := And.intro (cell_of_row _ _ 0 _ _ _ hR6.k0) (And.intro (cell_of_row _ _ 0 _ _ _ hR6.k2) (And.intro k0a (And.intro k1a k2a)))
      -- behind the last append
      have hvb : ∀ k, (Value.slice a2 n2 c2).ownBlock = some k → w.heap.size + 1 + 1 + 1 ≤ k := fun k hk => (hR5.tb.row.lt k hk).1
      have hgb : ∀ k, k < w5.heap.size → k < w.heap.size + 1 + 1 + 1 → w6.heap[k]? = w5.heap[k]? := fun k hk hk3 => hg6.block k hk (fun e => by have := hvb k e.symm; omega)
      have hb56 : Below w.heap.size w w6 := below_grown hR5.bl hg6 (fun k e => by have := hvb k e; omega)
      have k60 := (hgb _ (lt_of_block hR5.k0) (by omega)).trans hR5.k0
      have k61 := (hgb _ (lt_of_block hR5.k1) (by omega)).trans hR5.k1
      have k62 := (hgb _ (lt_of_block hR5.k2) (by omega)).trans hR5.k2
      have d0 : w6.cell? ⟨w.heap.size, 0, none⟩ = some (.slice (some ⟨g, off, none⟩) n hc) := cell_of_row w6 _ 0 _ _ _ k60
      have d2 : w6.cell? ⟨w.heap.size + 1 + 1, 0, none⟩ = some (.slice a2 n2 c2) := cell_of_row w6 _ 0 _ _ _ k62
      obtain ⟨k0c, k1c, k2c⟩ := hco w6 hb56
      have hS7 : w6.cell? ⟨w.heap.size, 0, none⟩ = some (.slice (some ⟨g, off, none⟩) n hc) ∧ w6.cell? ⟨w.heap.size + 1 + 1, 0, none⟩ = some (.slice a2 n2 c2) ∧ w6.cell? ⟨g, off + i * 3, none⟩ = some (.string xs) ∧ w6.cell? ⟨g, off + i * 3 + 1, none⟩ = some (.slice pa hn4 pc) ∧ w6.cell? ⟨g, off + i * 3 + 2, none⟩ = some (.slice qa qn5 qc) := ⟨d0, d2, k0c, k1c, k2c⟩
      have f2 : w6.frozen? ⟨w.heap.size + 1 + 1, 0, none⟩ = false := by simp [World.frozen?, k62]
      obtain ⟨w7, hw7⟩ : ∃ w7, w6.setCell ⟨w.heap.size + 1 + 1, 0, none⟩ (.slice (some ⟨R, 0, none⟩) (n2 + 1) c6) = w7 := ⟨_, rfl⟩
      have hoth : ∀ k, k ≠ w.heap.size + 1 + 1 → w7.heap[k]? = w6.heap[k]? := fun k hk => by rw [← hw7]; exact setCell_heapL _ _ _ _ hk
      have hR7 : CpR w (.slice (some ⟨g, off, none⟩) n hc) w7 (.slice (some ⟨R, 0, none⟩) (n2 + 1) c6) (X2 ++ [⟨xs, hs, qs, .slice a4 hn4 c4, .slice a5 qn5 c5⟩]) := by
        refine ⟨⟨by rw [← hw7]; exact hb56.os, by rw [← hw7]; exact hb56.tape, by rw [← hw7]; exact hb56.output, by rw [← hw7, setCell_sizeL]; exact hb56.size, fun k hk => by rw [hoth k (by omega)]; exact hb56.block k hk⟩, by rw [hoth _ (by omega)]; exact k60, by rw [hoth _ (by omega)]; exact k61, ?_, hT6.keep (fun k hk hB => hoth k (by omega))⟩
        rw [← hw7]; exact setCell_blkL k62 _
      have hii : (i : Int) < (n : Int) := by omega
      have hi0 : (0 : Int) ≤ (i : Int) := by omega
      have HWJ : Hid (wrap64 ((i : Int) + 1) = ((i + 1 : Nat) : Int)) := by show _ = _; have := HX.out.2.1; have := HX.out.2.2.ln; unfold wrap64; omega
      have HFIN : Hid (n2 + 1 = i + 1 ∧ (X2 ++ [(⟨xs, hs, qs, .slice a4 hn4 c4, .slice a5 qn5 c5⟩ : LX)]).length = n2 + 1 ∧ pX (X2 ++ [⟨xs, hs, qs, .slice a4 hn4 c4, .slice a5 qn5 c5⟩]) = pX (X.take (i + 1)) ∧ CpR w (.slice (some ⟨g, off, none⟩) n hc) w7 (.slice (some ⟨R, 0, none⟩) (n2 + 1) c6) (X2 ++ [⟨xs, hs, qs, .slice a4 hn4 c4, .slice a5 qn5 c5⟩])) := by
        refine ⟨by omega, by rw [List.length_append, hl2]; rfl, ?_, hR7⟩
        rw [hpt, ← hp2]; unfold pX; rw [List.map_append]; rfl
      have HR4 := Lib.hid hr4
      have HR5 := Lib.hid hr5
      have HR6 := Lib.hid hr6
      have HLT := Lib.hid hlt
      clear hr4 hr5 hr6 hR hR4 hR5 hR6 hR7 hRd hoth k60 k61 k62 d0 k0c k1c k2c k0 k1 k2 k0' k1' k2' k0'' k1'' k2'' k0a k1a k2a hgb hb56 hvb hnd hT6 hg6 hob6 ho4 ho5 ho4' hb4 hb5 hb6 hpv hqv hgh hgq hth htm hpt hp2 hl2 hni hxm hx hco hil hin hlt hxs hhs hqs hhn hqn hgl hB3 hbd
      go_upto_region 7 with (fail)
      refine wp_region_U (fun W => W.cell? ⟨w.heap.size, 0, none⟩ = some (.slice (some ⟨g, off, none⟩) n hc) ∧ W.cell? ⟨w.heap.size + 1 + 1, 0, none⟩ = some (.slice a2 n2 c2) ∧ W.cell? ⟨g, off + i * 3, none⟩ = some (.string xs) ∧ W.cell? ⟨g, off + i * 3 + 1, none⟩ = some (.slice pa hn4 pc) ∧ W.cell? ⟨g, off + i * 3 + 2, none⟩ = some (.slice qa qn5 qc)) [28] (by kernel_rfl) ?_
      refine wpAnyU_take (i := 0) [1, 26, 27, 28] rfl (by as_aux_lemma => kernel_rfl) (by as_aux_lemma => kernel_rfl) (by as_aux_lemma => kernel_rfl) (by as_aux_lemma => kernel_rfl) (by as_aux_lemma => kernel_rfl) (by as_aux_lemma => kernel_rfl) (fun _ _ _ h => h) (Or.inl ⟨by rfl, (by intro W hSW; (try dsimp only at hSW); (try go_split_ands); go_simp <;> with_reducible rfl)⟩) hS0 ?_
      try simp only [Act.put, List.getElem_toArray, List.getElem_cons_succ, List.getElem_cons_zero, List.setIfInBounds_toArray, List.set_cons_zero, List.set_cons_succ]
      refine wpAnyU_take (i := 1) [26, 27, 28] rfl (by as_aux_lemma => kernel_rfl) (by as_aux_lemma => kernel_rfl) (by as_aux_lemma => kernel_rfl) (by as_aux_lemma => kernel_rfl) (by as_aux_lemma => kernel_rfl) (by as_aux_lemma => kernel_rfl) (fun _ _ _ h => h) (Or.inl ⟨by rfl, (by intro W hSW; (try dsimp only at hSW); (try go_split_ands); go_simp <;> with_reducible rfl)⟩) hS0 ?_
      try simp only [Act.put, List.getElem_toArray, List.getElem_cons_succ, List.getElem_cons_zero, List.setIfInBounds_toArray, List.set_cons_zero, List.set_cons_succ]
      refine wpAnyU_take (i := 2) [3, 5, 6, 7, 24, 25, 26, 27, 28] rfl (by as_aux_lemma => kernel_rfl) (by as_aux_lemma => kernel_rfl) (by as_aux_lemma => kernel_rfl) (by as_aux_lemma => kernel_rfl) (by as_aux_lemma => kernel_rfl) (by as_aux_lemma => kernel_rfl) (fun _ _ _ h => h) (Or.inl ⟨by rfl, (by intro W hSW; (try dsimp only at hSW); (try go_split_ands); go_simp <;> with_reducible rfl)⟩) hS0 ?_
      try simp only [Act.put, List.getElem_toArray, List.getElem_cons_succ, List.getElem_cons_zero, List.setIfInBounds_toArray, List.set_cons_zero, List.set_cons_succ]
      refine wpAnyU_take (i := 3) [5, 6, 7, 24, 25, 26, 27, 28] rfl (by as_aux_lemma => kernel_rfl) (by as_aux_lemma => kernel_rfl) (by as_aux_lemma => kernel_rfl) (by as_aux_lemma => kernel_rfl) (by as_aux_lemma => kernel_rfl) (by as_aux_lemma => kernel_rfl) (fun _ _ _ h => h) (Or.inl ⟨by rfl, (by intro W hSW; (try dsimp only at hSW); (try go_split_ands); go_simp <;> with_reducible rfl)⟩) hS0 ?_
      try simp only [Act.put, List.getElem_toArray, List.getElem_cons_succ, List.getElem_cons_zero, List.setIfInBounds_toArray, List.set_cons_zero, List.set_cons_succ]
      refine wpAnyU_take (i := 4) [5, 6, 7, 24, 25, 26, 27, 28] rfl (by as_aux_lemma => kernel_rfl) (by as_aux_lemma => kernel_rfl) (by as_aux_lemma => kernel_rfl) (by as_aux_lemma => kernel_rfl) (by as_aux_lemma => kernel_rfl) (by as_aux_lemma => kernel_rfl) (fun _ _ _ h => h) (Or.inl ⟨by rfl, (by intro W hSW; (try dsimp only at hSW); (try go_split_ands); go_simp <;> with_reducible rfl)⟩) hS0 ?_
      try simp only [Act.put, List.getElem_toArray, List.getElem_cons_succ, List.getElem_cons_zero, List.setIfInBounds_toArray, List.set_cons_zero, List.set_cons_succ]
      refine wpAnyU_take (i := 5) [6, 7, 24, 25, 26, 27, 28] rfl (by as_aux_lemma => kernel_rfl) (by as_aux_lemma => kernel_rfl) (by as_aux_lemma => kernel_rfl) (by as_aux_lemma => kernel_rfl) (by as_aux_lemma => kernel_rfl) (by as_aux_lemma => kernel_rfl) (fun _ _ _ h => h) (Or.inl ⟨by rfl, (by intro W hSW; (try dsimp only at hSW); (try go_split_ands); go_simp <;> with_reducible rfl)⟩) hS0 ?_
      try simp only [Act.put, List.getElem_toArray, List.getElem_cons_succ, List.getElem_cons_zero, List.setIfInBounds_toArray, List.set_cons_zero, List.set_cons_succ]
      refine wpAnyU_take (i := 6) [7, 24, 25, 26, 27, 28] rfl (by as_aux_lemma => kernel_rfl) (by as_aux_lemma => kernel_rfl) (by as_aux_lemma => kernel_rfl) (by as_aux_lemma => kernel_rfl) (by as_aux_lemma => kernel_rfl) (by as_aux_lemma => kernel_rfl) (fun _ _ _ h => h) (Or.inl ⟨by rfl, (by intro W hSW; (try dsimp only at hSW); (try go_split_ands); go_simp <;> with_reducible rfl)⟩) hS0 ?_
      try simp only [Act.put, List.getElem_toArray, List.getElem_cons_succ, List.getElem_cons_zero, List.setIfInBounds_toArray, List.set_cons_zero, List.set_cons_succ]
      refine wpAnyU_take (i := 7) [24, 25, 26, 27, 28] rfl (by as_aux_lemma => kernel_rfl) (by as_aux_lemma => kernel_rfl) (by as_aux_lemma => kernel_rfl) (by as_aux_lemma => kernel_rfl) (by as_aux_lemma => kernel_rfl) (by as_aux_lemma => kernel_rfl) (fun _ _ _ h => h) (Or.inl ⟨by rfl, (by intro W hSW; (try dsimp only at hSW); (try go_split_ands); go_simp <;> with_reducible rfl)⟩) hS0 ?_
      try simp only [Act.put, List.getElem_toArray, List.getElem_cons_succ, List.getElem_cons_zero, List.setIfInBounds_toArray, List.set_cons_zero, List.set_cons_succ]
      refine wpAnyU_take (i := 8) [15, 23, 24, 25, 26, 27, 28] rfl (by as_aux_lemma => kernel_rfl) (by as_aux_lemma => kernel_rfl) (by as_aux_lemma => kernel_rfl) (by as_aux_lemma => kernel_rfl) (by as_aux_lemma => kernel_rfl) (by as_aux_lemma => kernel_rfl) (fun _ _ _ h => h) (Or.inl ⟨by rfl, (by intro W hSW; (try dsimp only at hSW); (try go_split_ands); go_simp <;> with_reducible rfl)⟩) hS0 ?_
      try simp only [Act.put, List.getElem_toArray, List.getElem_cons_succ, List.getElem_cons_zero, List.setIfInBounds_toArray, List.set_cons_zero, List.set_cons_succ]
      refine wpAnyU_take (i := 9) [10, 12, 13, 14, 15, 23, 24, 25, 26, 27, 28] rfl (by as_aux_lemma => kernel_rfl) (by as_aux_lemma => kernel_rfl) (by as_aux_lemma => kernel_rfl) (by as_aux_lemma => kernel_rfl) (by as_aux_lemma => kernel_rfl) (by as_aux_lemma => kernel_rfl) (fun _ _ _ h => h) (Or.inl ⟨by rfl, (by intro W hSW; (try dsimp only at hSW); (try go_split_ands); go_simp <;> with_reducible rfl)⟩) hS0 ?_
      try simp only [Act.put, List.getElem_toArray, List.getElem_cons_succ, List.getElem_cons_zero, List.setIfInBounds_toArray, List.set_cons_zero, List.set_cons_succ]
      refine wpAnyU_take (i := 10) [12, 13, 14, 15, 23, 24, 25, 26, 27, 28] rfl (by as_aux_lemma => kernel_rfl) (by as_aux_lemma => kernel_rfl) (by as_aux_lemma => kernel_rfl) (by as_aux_lemma => kernel_rfl) (by as_aux_lemma => kernel_rfl) (by as_aux_lemma => kernel_rfl) (fun _ _ _ h => h) (Or.inl ⟨by rfl, (by intro W hSW; (try dsimp only at hSW); (try go_split_ands); go_simp <;> with_reducible rfl)⟩) hS0 ?_
      try simp only [Act.put, List.getElem_toArray, List.getElem_cons_succ, List.getElem_cons_zero, List.setIfInBounds_toArray, List.set_cons_zero, List.set_cons_succ]
      refine wpAnyU_take (i := 11) [12, 13, 14, 15, 23, 24, 25, 26, 27, 28] rfl (by as_aux_lemma => kernel_rfl) (by as_aux_lemma => kernel_rfl) (by as_aux_lemma => kernel_rfl) (by as_aux_lemma => kernel_rfl) (by as_aux_lemma => kernel_rfl) (by as_aux_lemma => kernel_rfl) (fun _ _ _ h => h) (Or.inl ⟨by rfl, (by intro W hSW; (try dsimp only at hSW); (try go_split_ands); go_simp <;> with_reducible rfl)⟩) hS0 ?_
      try simp only [Act.put, List.getElem_toArray, List.getElem_cons_succ, List.getElem_cons_zero, List.setIfInBounds_toArray, List.set_cons_zero, List.set_cons_succ]
      refine wpAnyU_take (i := 12) [13, 14, 15, 23, 24, 25, 26, 27, 28] rfl (by as_aux_lemma => kernel_rfl) (by as_aux_lemma => kernel_rfl) (by as_aux_lemma => kernel_rfl) (by as_aux_lemma => kernel_rfl) (by as_aux_lemma => kernel_rfl) (by as_aux_lemma => kernel_rfl) (fun _ _ _ h => h) (Or.inl ⟨by rfl, (by intro W hSW; (try dsimp only at hSW); (try go_split_ands); go_simp <;> with_reducible rfl)⟩) hS0 ?_
      try simp only [Act.put, List.getElem_toArray, List.getElem_cons_succ, List.getElem_cons_zero, List.setIfInBounds_toArray, List.set_cons_zero, List.set_cons_succ]
      refine wpAnyU_take (i := 13) [14, 15, 23, 24, 25, 26, 27, 28] rfl (by as_aux_lemma => kernel_rfl) (by as_aux_lemma => kernel_rfl) (by as_aux_lemma => kernel_rfl) (by as_aux_lemma => kernel_rfl) (by as_aux_lemma => kernel_rfl) (by as_aux_lemma => kernel_rfl) (fun _ _ _ h => h) (Or.inl ⟨by rfl, (by intro W hSW; (try dsimp only at hSW); (try go_split_ands); go_simp <;> with_reducible rfl)⟩) hS0 ?_
      try simp only [Act.put, List.getElem_toArray, List.getElem_cons_succ, List.getElem_cons_zero, List.setIfInBounds_toArray, List.set_cons_zero, List.set_cons_succ]
      refine wpAnyU_take (i := 14) [15, 23, 24, 25, 26, 27, 28] rfl (by as_aux_lemma => kernel_rfl) (by as_aux_lemma => kernel_rfl) (by as_aux_lemma => kernel_rfl) (by as_aux_lemma => kernel_rfl) (by as_aux_lemma => kernel_rfl) (by as_aux_lemma => kernel_rfl) (fun _ _ _ h => h) (Or.inl ⟨by rfl, (by intro W hSW; (try dsimp only at hSW); (try go_split_ands); go_simp <;> with_reducible rfl)⟩) hS0 ?_
      try simp only [Act.put, List.getElem_toArray, List.getElem_cons_succ, List.getElem_cons_zero, List.setIfInBounds_toArray, List.set_cons_zero, List.set_cons_succ]
      refine wpAnyU_take (i := 16) [23, 24, 25, 26, 27, 28] rfl (by as_aux_lemma => kernel_rfl) (by as_aux_lemma => kernel_rfl) (by as_aux_lemma => kernel_rfl) (by as_aux_lemma => kernel_rfl) (by as_aux_lemma => kernel_rfl) (by as_aux_lemma => kernel_rfl) (fun _ _ _ h => h) (Or.inl ⟨by rfl, (by intro W hSW; (try dsimp only at hSW); (try go_split_ands); go_simp <;> with_reducible rfl)⟩) hS0 ?_
      try simp only [Act.put, List.getElem_toArray, List.getElem_cons_succ, List.getElem_cons_zero, List.setIfInBounds_toArray, List.set_cons_zero, List.set_cons_succ]
      refine wpAnyU_take (i := 17) [18, 20, 21, 22, 23, 24, 25, 26, 27, 28] rfl (by as_aux_lemma => kernel_rfl) (by as_aux_lemma => kernel_rfl) (by as_aux_lemma => kernel_rfl) (by as_aux_lemma => kernel_rfl) (by as_aux_lemma => kernel_rfl) (by as_aux_lemma => kernel_rfl) (fun _ _ _ h => h) (Or.inl ⟨by rfl, (by intro W hSW; (try dsimp only at hSW); (try go_split_ands); go_simp <;> with_reducible rfl)⟩) hS0 ?_
      try simp only [Act.put, List.getElem_toArray, List.getElem_cons_succ, List.getElem_cons_zero, List.setIfInBounds_toArray, List.set_cons_zero, List.set_cons_succ]
      refine wpAnyU_take (i := 18) [20, 21, 22, 23, 24, 25, 26, 27, 28] rfl (by as_aux_lemma => kernel_rfl) (by as_aux_lemma => kernel_rfl) (by as_aux_lemma => kernel_rfl) (by as_aux_lemma => kernel_rfl) (by as_aux_lemma => kernel_rfl) (by as_aux_lemma => kernel_rfl) (fun _ _ _ h => h) (Or.inl ⟨by rfl, (by intro W hSW; (try dsimp only at hSW); (try go_split_ands); go_simp <;> with_reducible rfl)⟩) hS0 ?_
      try simp only [Act.put, List.getElem_toArray, List.getElem_cons_succ, List.getElem_cons_zero, List.setIfInBounds_toArray, List.set_cons_zero, List.set_cons_succ]
      refine wpAnyU_take (i := 19) [20, 21, 22, 23, 24, 25, 26, 27, 28] rfl (by as_aux_lemma => kernel_rfl) (by as_aux_lemma => kernel_rfl) (by as_aux_lemma => kernel_rfl) (by as_aux_lemma => kernel_rfl) (by as_aux_lemma => kernel_rfl) (by as_aux_lemma => kernel_rfl) (fun _ _ _ h => h) (Or.inl ⟨by rfl, (by intro W hSW; (try dsimp only at hSW); (try go_split_ands); go_simp <;> with_reducible rfl)⟩) hS0 ?_
      try simp only [Act.put, List.getElem_toArray, List.getElem_cons_succ, List.getElem_cons_zero, List.setIfInBounds_toArray, List.set_cons_zero, List.set_cons_succ]
      refine wpAnyU_take (i := 20) [21, 22, 23, 24, 25, 26, 27, 28] rfl (by as_aux_lemma => kernel_rfl) (by as_aux_lemma => kernel_rfl) (by as_aux_lemma => kernel_rfl) (by as_aux_lemma => kernel_rfl) (by as_aux_lemma => kernel_rfl) (by as_aux_lemma => kernel_rfl) (fun _ _ _ h => h) (Or.inl ⟨by rfl, (by intro W hSW; (try dsimp only at hSW); (try go_split_ands); go_simp <;> with_reducible rfl)⟩) hS0 ?_
      try simp only [Act.put, List.getElem_toArray, List.getElem_cons_succ, List.getElem_cons_zero, List.setIfInBounds_toArray, List.set_cons_zero, List.set_cons_succ]
      refine wpAnyU_take (i := 21) [22, 23, 24, 25, 26, 27, 28] rfl (by as_aux_lemma => kernel_rfl) (by as_aux_lemma => kernel_rfl) (by as_aux_lemma => kernel_rfl) (by as_aux_lemma => kernel_rfl) (by as_aux_lemma => kernel_rfl) (by as_aux_lemma => kernel_rfl) (fun _ _ _ h => h) (Or.inl ⟨by rfl, (by intro W hSW; (try dsimp only at hSW); (try go_split_ands); go_simp <;> with_reducible rfl)⟩) hS0 ?_
      try simp only [Act.put, List.getElem_toArray, List.getElem_cons_succ, List.getElem_cons_zero, List.setIfInBounds_toArray, List.set_cons_zero, List.set_cons_succ]
      refine wpAnyU_take (i := 22) [23, 24, 25, 26, 27, 28] rfl (by as_aux_lemma => kernel_rfl) (by as_aux_lemma => kernel_rfl) (by as_aux_lemma => kernel_rfl) (by as_aux_lemma => kernel_rfl) (by as_aux_lemma => kernel_rfl) (by as_aux_lemma => kernel_rfl) (fun _ _ _ h => h) (Or.inl ⟨by rfl, (by intro W hSW; (try dsimp only at hSW); (try go_split_ands); go_simp <;> with_reducible rfl)⟩) hS0 ?_
      try simp only [Act.put, List.getElem_toArray, List.getElem_cons_succ, List.getElem_cons_zero, List.setIfInBounds_toArray, List.set_cons_zero, List.set_cons_succ]
      refine wpAnyU_one (i := 15) (by kernel_rfl) rfl (fun K hK => ?_)
      refine step_append_eq14 rfl rfl HR4.out rfl rfl ?_
      refine hK.out _ _ (fun _ => hS4) (fun _ => ?_)
      clear hK K
      try simp only [Act.put, List.getElem_toArray, List.getElem_cons_succ, List.getElem_cons_zero, List.setIfInBounds_toArray, List.set_cons_zero, List.set_cons_succ]
      refine wpAnyU_one (i := 23) (by kernel_rfl) rfl (fun K hK => ?_)
      refine step_append_eq14 rfl rfl HR5.out rfl rfl ?_
      refine hK.out _ _ (fun _ => hS5) (fun _ => ?_)
      clear hK K
      try simp only [Act.put, List.getElem_toArray, List.getElem_cons_succ, List.getElem_cons_zero, List.setIfInBounds_toArray, List.set_cons_zero, List.set_cons_succ]
      refine wpAnyU_take (i := 24) [25, 26, 27, 28] rfl (by as_aux_lemma => kernel_rfl) (by as_aux_lemma => kernel_rfl) (by as_aux_lemma => kernel_rfl) (by as_aux_lemma => kernel_rfl) (by as_aux_lemma => kernel_rfl) (by as_aux_lemma => kernel_rfl) (fun _ _ _ h => h) (Or.inl ⟨by rfl, (by intro W hSW; (try dsimp only at hSW); (try go_split_ands); go_simp <;> with_reducible rfl)⟩) hS5 ?_
      try simp only [Act.put, List.getElem_toArray, List.getElem_cons_succ, List.getElem_cons_zero, List.setIfInBounds_toArray, List.set_cons_zero, List.set_cons_succ]
      refine wpAnyU_one (i := 25) (by kernel_rfl) rfl (fun K hK => ?_)
      go_simp
      refine hK.out _ _ (fun _ => hS6) (fun _ => ?_)
      clear hK K
      try simp only [Act.put, List.getElem_toArray, List.getElem_cons_succ, List.getElem_cons_zero, List.setIfInBounds_toArray, List.set_cons_zero, List.set_cons_succ]
      refine wpAnyU_one (i := 26) (by kernel_rfl) rfl (fun K hK => ?_)
      refine step_append_eq14 rfl rfl HR6.out rfl rfl ?_
      refine hK.out _ _ (fun _ => hS7) (fun _ => ?_)
      clear hK K
      try simp only [Act.put, List.getElem_toArray, List.getElem_cons_succ, List.getElem_cons_zero, List.setIfInBounds_toArray, List.set_cons_zero, List.set_cons_succ]
      refine wpAnyU_take (i := 27) [28] rfl (by as_aux_lemma => kernel_rfl) (by as_aux_lemma => kernel_rfl) (by as_aux_lemma => kernel_rfl) (by as_aux_lemma => kernel_rfl) (by as_aux_lemma => kernel_rfl) (by as_aux_lemma => kernel_rfl) (fun _ _ _ h => h) (Or.inl ⟨by rfl, (by intro W hSW; (try dsimp only at hSW); (try go_split_ands); go_simp <;> with_reducible rfl)⟩) hS7 ?_
      try simp only [Act.put, List.getElem_toArray, List.getElem_cons_succ, List.getElem_cons_zero, List.setIfInBounds_toArray, List.set_cons_zero, List.set_cons_succ]
      refine wpAnyU_one (i := 28) (by kernel_rfl) rfl (fun K hK => ?_)
      go_simp
      refine hK.out _ _ (fun h => absurd h (by decide)) (fun _ => ?_)
      clear hK K
      try simp only [Act.put, List.getElem_toArray, List.getElem_cons_succ, List.getElem_cons_zero, List.setIfInBounds_toArray, List.set_cons_zero, List.set_cons_succ]
      refine wpAnyU_done (by kernel_rfl) ?_ _
      clear hS0 hS4 hS5 hS6 hS7 d2 f2
      go_wp2
      go_roundw
      case rel => exact ⟨i + 1, _, _, n2 + 1, c6, by rw [HWJ.out], HLT.out, HFIN.out⟩
      case measure => exact meas_up HWJ.out HLT.out
    · have hii : ¬ (i : Int) < (n : Int) := by omega
      have htl : X.take i = X := List.take_of_length_le (by rw [HX.out.2.1]; omega)
      rw [htl] at hp2
      obtain ⟨w7, hw7⟩ : ∃ w7, wr.setRow (w.heap.size + 1) #[.slice a2 n2 c2] = w7 := ⟨_, rfl⟩
      have k7 : Hid (w7.heap[w.heap.size + 1]? = some (.cells #[.slice a2 n2 c2] 51 (0, 0))) := by
        show _ = _
        rw [← hw7]; exact setRow_heap wr _ _ _ _ _ hR.k1
      have hoth : ∀ k, k ≠ w.heap.size + 1 → w7.heap[k]? = wr.heap[k]? := fun k hk => by rw [← hw7]; exact setRow_otherL _ _ _ _ hk
      have hfin : Hid (CpPost w X (.returned (.agg #[.slice a2 n2 c2])) w7) :=
        ⟨_, X2, rfl, hp2, (hR.tb.keep (fun k hk hB => hoth k (by omega))).base (by omega), ⟨by rw [← hw7]; exact hR.bl.os, by rw [← hw7]; exact hR.bl.tape, by rw [← hw7]; exact hR.bl.output, by rw [← hw7, setRow_size]; exact hR.bl.size, fun k hk => by rw [hoth k (by omega)]; exact hR.bl.block k hk⟩⟩
      have HK := Lib.hid (And.intro hR.k1 hR.k2)
      clear hR hp2 hl2 hni htl hlt hin hoth
      go_wp2_with (first | (refine wpList_load_row rfl _ _ rfl (w.heap.size + 1 + 1) rfl _ _ (0, 0) _ HK.out.2 Try.underlying51 rfl infoT ?_) | (refine wpList_store_row rfl _ _ _ rfl (w.heap.size + 1) _ rfl rfl _ _ HK.out.1 infoT rfl (by simp [Value.oneCell']) ?_; rw [hw7]))
      exact bodyPost_ret (results_cell_row (fn := Try.f46) (p := 2) (ty := 51) rfl _ _ (w.heap.size + 1) 51 _ (0, 0) _ rfl k7.out Try.underlying51 rfl infoT) rfl hfin.out
end Mun
