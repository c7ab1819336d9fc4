/- Texts of mine, one behind the other: LogR, LogA, LogB, LogC, LogJ, LogD, LogE, LogF, WalW. -/
import Derived.Test.YtoblajbffnkkiaaMgE
import Derived.Test.YtoblajbffnkkiaaMgA
import Derived.Test.YtoblajbffnkkiaaMgD
import Derived.Lib.SliceRun
section
/- How a log lies in memory. -/
set_option maxRecDepth 100000
set_option linter.unusedVariables false
set_option linter.unusedSimpArgs false
namespace Mun
open Go Go.RowKit
open Go.Proofs

def iv (l : List Nat) : List Value := l.map fun (n : Nat) => Value.int .i64 (n : Int)
def lcells (D : Nat) (m : LM) (bv sv : Value) : Array Value := #[.pointer (some ⟨D, 0, none⟩), .int .u64 m.base, bv, sv, .int .i64 m.forced, .int .u64 m.check]
def lfoot (L : Nat) (bv sv : Value) : Foot := fun k => k = L ∨ bv.ownBlock = some k ∨ sv.ownBlock = some k

/-- a log's own memory -/
structure LMem (w : World) (D L : Nat) (m : LM) (bv sv : Value) : Prop where
  blk : w.heap[L]? = some (.cells (lcells D m bv sv) 86 (0, 0))
  b : OwnB w 0 5 bv m.bytes
  s : w.ownsRow 0 3 1 sv m.recs.length (iv (offs 0 m.recs))
  wf : m.Wf

/-- two sets of blocks -/
def uf (A B : Foot) : Foot := fun k => A k ∨ B k

structure LogAt (w : World) (D L : Nat) (Z F : Foot) (dm : DM) (m : LM) (bv sv : Value) : Prop where
  disk : DiskAt w D (uf (lfoot L bv sv) Z) F dm
  mem : LMem w D L m bv sv

section
variable {w w' : World} {D L : Nat} {F Z : Foot} {dm dm' : DM} {m m' : LM} {bv sv : Value}

theorem LMem.keep (h : LMem w D L m bv sv) (hk : ∀ k, lfoot L bv sv k → w'.heap[k]? = w.heap[k]?) : LMem w' D L m bv sv :=
  ⟨(hk L (.inl rfl)).trans h.blk, ownsRow_keep h.b (fun k e => hk k (.inr (.inl e))), ownsRow_keep h.s (fun k e => hk k (.inr (.inr e))), h.wf⟩
theorem LMem.lt (h : LMem w D L m bv sv) (k : Nat) (hk : lfoot L bv sv k) : k < w.heap.size := by
  rcases hk with rfl | h1 | h1
  · exact lt_of_block h.blk
  · exact (h.b.lt k h1).2
  · exact (h.s.lt k h1).2
theorem LMem.neB (h : LMem w D L m bv sv) : bv.ownBlock ≠ some L := fun e => by obtain ⟨c, hc⟩ := ownsRow_blk h.b e; exact blk_ne h.blk hc (by decide) rfl
theorem LMem.neS (h : LMem w D L m bv sv) : sv.ownBlock ≠ some L := fun e => by obtain ⟨c, hc⟩ := ownsRow_blk h.s e; exact blk_ne h.blk hc (by decide) rfl
theorem LMem.neBS (h : LMem w D L m bv sv) (k : Nat) (h1 : bv.ownBlock = some k) (h2 : sv.ownBlock = some k) : False := by
  obtain ⟨c, hc⟩ := ownsRow_blk h.b h1
  obtain ⟨c', hc'⟩ := ownsRow_blk h.s h2
  exact blk_ne hc hc' (by decide) rfl
theorem LMem.cell (h : LMem w D L m bv sv) (i : Nat) : w.cell? ⟨L, i, none⟩ = (lcells D m bv sv)[i]? := cell_of_row w L i _ _ _ h.blk
theorem LMem.free (h : LMem w D L m bv sv) (i : Nat) : w.frozen? ⟨L, i, none⟩ = false := by simp [World.frozen?, h.blk]

theorem LogAt.below (h : LogAt w D L Z F dm m bv sv) (hb : Below w.heap.size w w') : LogAt w' D L Z F dm m bv sv :=
  ⟨h.disk.below hb, h.mem.keep (fun k hk => hb.block k (h.mem.lt k hk))⟩
theorem LogAt.drewN (h : LogAt w D L Z F dm m bv sv) (k : Nat) : LogAt (w.drewN k) D L Z F dm m bv sv := h.below (below_drewN (Below.refl _ _) k)

theorem LMem.forms (h : LMem w D L m bv sv) : ∃ ba bn bc sa sn sc, bv = .slice ba bn bc ∧ sv = .slice sa sn sc ∧ Hid (bn = lenL m.recs ∧ sn = m.recs.length) := by
  obtain ⟨ba, bn, bc, e1, h1, _⟩ := (OwnB.rd (F := NoF) h.b (fun _ _ => noF _)).formN
  obtain ⟨sa, sc, e2, _⟩ := (RdV.of_own (F := NoF) h.s (fun _ _ => noF _)).form
  exact ⟨ba, bn, bc, sa, _, sc, e1, e2, by have := h1.out; unfold LM.bytes at this; rw [encL_length] at this; exact this, rfl⟩

theorem l_first (h : LMem w D L m bv sv) : Calls Try.prog 14 #[.pointer (some ⟨L, 0, none⟩)] w fun e w' => e = .returned (.int .u64 m.base) ∧ w = w' := by
  have c1 : w.cell? ⟨L, 1, none⟩ = some (.int .u64 m.base) := h.cell 1
  clear h
  go_enter Try.func14, Try.ntmps14
  go_wp2
  go_ret
  exact ⟨rfl, rfl⟩

theorem l_end (h : LMem w D L m bv sv) : Calls Try.prog 15 #[.pointer (some ⟨L, 0, none⟩)] w fun e w' => e = .returned (.int .u64 m.fin) ∧ ∃ k, w' = w.drewN k := by
  obtain ⟨ba, bn, bc, sa, sn, sc, rfl, rfl, HN⟩ := h.forms
  have c1 : w.cell? ⟨L, 1, none⟩ = some (.int .u64 m.base) := h.cell 1
  have c2 : w.cell? ⟨L, 2, none⟩ = some (.slice ba bn bc) := h.cell 2
  have hb := h.wf.base
  have hl := h.wf.len
  have hf : m.fin = m.base + bn := by unfold LM.fin; rw [HN.out.1]
  rw [hf]
  have hbn : bn ≤ 16777216 := by rw [HN.out.1]; exact hl
  have v1 : IntKind.u64.wrap (bn : Int) = (bn : Int) := wrap_u64_nat _ (by omega)
  have v2 : IntKind.u64.wrap ((m.base : Int) + (bn : Int)) = (m.base : Int) + (bn : Int) := by
    have := wrap_u64_nat (m.base + bn) (by omega)
    push_cast at this
    exact this
  clear h hb hl hf hbn HN
  go_enter Try.func15, Try.ntmps15
  go_upto_region 1 with (fail)
  go_quiet (fail)
  go_wp2
  go_ret
  exact ⟨ret_int (by push_cast; rfl), _, rfl⟩

theorem l_forced (h : LMem w D L m bv sv) : Calls Try.prog 17 #[.pointer (some ⟨L, 0, none⟩)] w fun e w' => e = .returned (.int .u64 (m.base + m.forced : Nat)) ∧ ∃ k, w' = w.drewN k := by
  have c1 : w.cell? ⟨L, 1, none⟩ = some (.int .u64 m.base) := h.cell 1
  have c4 : w.cell? ⟨L, 4, none⟩ = some (.int .i64 m.forced) := h.cell 4
  have hb := h.wf.base
  have hl := h.wf.len
  have hfo := h.wf.forced
  have v1 : IntKind.u64.wrap (m.forced : Int) = (m.forced : Int) := wrap_u64_nat _ (by omega)
  have v2 : IntKind.u64.wrap ((m.base : Int) + (m.forced : Int)) = (m.base : Int) + (m.forced : Int) := by
    have := wrap_u64_nat (m.base + m.forced) (by omega)
    push_cast at this
    exact this
  clear h hb hl hfo
  go_enter Try.func17, Try.ntmps17
  go_upto_region 1 with (fail)
  go_quiet (fail)
  go_wp2
  go_ret
  exact ⟨ret_int (by push_cast; rfl), _, rfl⟩
end
end Mun
end

section
/- Contracts of a log: Append. -/
set_option maxRecDepth 100000
set_option linter.unusedVariables false
set_option linter.unusedSimpArgs false
namespace Mun
open Go Go.RowKit
open Go.Proofs


theorem chg_app {E E' : Foot} {w w' : World} {o : Obj} {row : Option Nat} (h : (w.alloc o).grownBy w' row) (hE : ∀ k, row = some k → E k) (hE' : ∀ k, E' k → E k ∨ (w.heap.size ≤ k ∧ k < w'.heap.size)) : Chg E E' w w' := by
  have hs := h.size
  simp only [World.size_alloc] at hs
  exact ⟨h.os, h.tape, h.output, by omega, fun k hk hn => by rw [h.block k (by simp; omega) (fun e => hn (hE k e.symm)), heap_alloc_old _ _ hk], hE'⟩
theorem chg_app0 {E E' : Foot} {w w' : World} {row : Option Nat} (h : w.grownBy w' row) (hE : ∀ k, row = some k → E k) (hE' : ∀ k, E' k → E k ∨ (w.heap.size ≤ k ∧ k < w'.heap.size)) : Chg E E' w w' :=
  ⟨h.os, h.tape, h.output, h.size, fun k hk hn => h.block k hk (fun e => hn (hE k e.symm)), hE'⟩

theorem info_int : (Try.prog.info? 3).map (fun i => (i.zero, i.size, i.bytes)) = some (some (.int .i64 0), 1, 8) := by kernel_rfl

theorem iv_length (l : List Nat) : (iv l).length = l.length := by simp [iv]
theorem iv_append (a b : List Nat) : iv (a ++ b) = iv a ++ iv b := by simp [iv]

/-- a number laid behind a row of numbers -/
theorem push_int {w : World} {B : Nat} {ty : TypeId} {v : Value} {n : Nat} {xs : List Nat} (x : Nat) (h : w.ownsRow B 3 1 v n (iv xs)) (hB : B ≤ w.heap.size) (hl : n < 16777216) :
    ∃ R cp w', (Builtin.append_ #[84, 84] ty #[v, .slice (some ⟨w.heap.size, 0, none⟩) 1 1]).run Try.prog (w.alloc (.cells #[.int .i64 x] 3)) = .ok (.slice (some ⟨R, 0, none⟩) (n + 1) cp) w' ∧
      w'.ownsRow B 3 1 (.slice (some ⟨R, 0, none⟩) (n + 1) cp) (n + 1) (iv (xs ++ [x])) ∧
      (w.alloc (.cells #[.int .i64 x] 3)).grownBy w' v.ownBlock ∧ (v.ownBlock = some R ∨ w.heap.size < R) ∧ R < w'.heap.size := by
  obtain ⟨i, hi, hz, h1, h2⟩ := info_of info_int
  have hsrc : RdV (fun _ => False) (w.alloc (.cells #[.int .i64 x] 3)) 1 (.slice (some ⟨w.heap.size, 0, none⟩) 1 1) 1 (iv [x]) :=
    ⟨rfl, _, _, rfl, Nat.le_refl _, by unfold maxLen; omega, by simp, fun _ => ⟨w.heap.size, 0, _, _, (0, 0), rfl, fun h => h, heap_alloc_new w _, rfl⟩⟩
  obtain ⟨v', w', hr, ho, hg, hob, hnil⟩ := run_append_rd (P := Try.prog) (base := B) (ty := ty) Try.underlying84 hi hz h1 h2 rfl (by decide) (World.ownsRow.alloc h _) hsrc
    (by intro u hu; simp only [iv, List.map_cons, List.map_nil, List.mem_cons, List.not_mem_nil, or_false] at hu; subst hu; rfl) (by omega) (by omega) (by simp; omega)
  rcases ho.2 with ⟨rfl, h0⟩ | ⟨R, cp, cur, rfl, hb, hR, hrest⟩
  · exact absurd (hnil.1 rfl).2 (by omega)
  · refine ⟨R, cp, w', hr, by rw [iv_append]; exact ho, hg, ?_, lt_of_block hR⟩
    rcases hob with h3 | h3
    · exact .inl h3.symm
    · simp [Value.ownBlock] at h3; exact .inr (by omega)

def LM.push (m : LM) (r : PR) : LM := { m with recs := m.recs ++ [r] }

section
variable (w : World) (D L : Nat) (F : Foot) (dm : DM) (m : LM) (bv sv : Value) (r : PR) (x : RV)

/-- nothing is done -/
def AppNo (Z : Foot) (k : Int) (e : Ending) (w' : World) : Prop := e = .returned (.tuple #[.int .u64 0, .int .i64 k]) ∧ LogAt w' D L Z F dm m bv sv ∧ Below w.heap.size w w'

theorem app_no {G Z : Foot} (h : LogAt w D L Z F dm m bv sv) (hr : RecAt G w r x) (hg : goodR r = false) :
    Calls Try.prog 16 #[.pointer (some ⟨L, 0, none⟩), rval r x] w (AppNo w D L F dm m bv sv Z 1) := by
  obtain ⟨da, dn, dc, ca, cn, cc, e1, e2, -⟩ := hr.open
  have hby := fun W (hb : Below w.heap.size w W) => bytes_no W r x m.fin (hr.below hb) hg
  have hen := fun W (hb : Below w.heap.size w W) => l_end (h.below hb).mem
  unfold rval at hby ⊢
  rw [e1, e2] at hby
  rw [e1, e2]
  have HY := Lib.hid hby
  have HE := Lib.hid hen
  have HH := Lib.hid h
  clear hby hen h hr e1 e2 hg
  go_enter Try.func16, Try.ntmps16
  go_wp2_with fail
  refine (HE.out _ ((Below.refl _ _).alloc (Nat.le_refl _) _)).mono ?_
  rintro e w2 ⟨rfl, k2, hk2⟩
  have hb2 : Below w.heap.size w w2 := by rw [hk2]; exact below_drewN ((Below.refl _ _).alloc (Nat.le_refl _) _) k2
  have hbx : w2.heap[w.heap.size]? = some (.cells (rcs r (.slice da dn dc) (.slice ca cn cc)) 26 (0, 0)) := by rw [hk2]; exact heap_alloc_new w _
  obtain ⟨a0, a1, a2, a3, a4, a5⟩ := box6 (w := w) hbx
  have HB2 := Lib.hid hb2
  clear hk2 hb2 hbx
  go_wp2_with fail
  refine (HY.out w2 HB2.out).mono ?_
  rintro e w3 ⟨rfl, hb3⟩
  have HB3 := Lib.hid (HB2.out.trans (hb3.mono HB2.out.size))
  clear hb3 a0 a1 a2 a3 a4 a5
  go_wp2
  go_ret2
  exact ⟨rfl, HH.out.below HB3.out, HB3.out⟩

theorem app_big {G Z : Foot} (h : LogAt w D L Z F dm m bv sv) (hr : RecAt G w r x) (hg : goodR r = true) (hsz : szR r ≤ 4194304) (hbig : 1048576 < (bodyR r).length) :
    Calls Try.prog 16 #[.pointer (some ⟨L, 0, none⟩), rval r x] w (AppNo w D L F dm m bv sv Z 2) := by
  obtain ⟨da, dn, dc, ca, cn, cc, e1, e2, -⟩ := hr.open
  have hby := fun W (hb : Below w.heap.size w W) => bytes_big W r x m.fin (hr.below hb) hg hsz hbig
  have hen := fun W (hb : Below w.heap.size w W) => l_end (h.below hb).mem
  unfold rval at hby ⊢
  rw [e1, e2] at hby
  rw [e1, e2]
  have HY := Lib.hid hby
  have HE := Lib.hid hen
  have HH := Lib.hid h
  clear hby hen h hr e1 e2 hg hsz hbig
  go_enter Try.func16, Try.ntmps16
  go_wp2_with fail
  refine (HE.out _ ((Below.refl _ _).alloc (Nat.le_refl _) _)).mono ?_
  rintro e w2 ⟨rfl, k2, hk2⟩
  have hb2 : Below w.heap.size w w2 := by rw [hk2]; exact below_drewN ((Below.refl _ _).alloc (Nat.le_refl _) _) k2
  have hbx : w2.heap[w.heap.size]? = some (.cells (rcs r (.slice da dn dc) (.slice ca cn cc)) 26 (0, 0)) := by rw [hk2]; exact heap_alloc_new w _
  obtain ⟨a0, a1, a2, a3, a4, a5⟩ := box6 (w := w) hbx
  have HB2 := Lib.hid hb2
  clear hk2 hb2 hbx
  go_wp2_with fail
  refine (HY.out w2 HB2.out).mono ?_
  rintro e w3 ⟨rfl, hb3⟩
  have HB3 := Lib.hid (HB2.out.trans (hb3.mono HB2.out.size))
  clear hb3 a0 a1 a2 a3 a4 a5
  go_wp2
  go_ret2
  exact ⟨rfl, HH.out.below HB3.out, HB3.out⟩

def AppDev (Z : Foot) (e : Ending) (w' : World) : Prop :=
  ((dm.append (recB r m.fin)).2 ≠ 0 ∧ e = .returned (.tuple #[.int .u64 0, .int .i64 (dm.append (recB r m.fin)).2]) ∧ ∃ F', LogAt w' D L Z F' (dm.append (recB r m.fin)).1 m bv sv ∧ Chg (uf F (lfoot L bv sv)) (uf F' (lfoot L bv sv)) w w') ∨
  ((dm.append (recB r m.fin)).2 = 0 ∧ e = .returned (.tuple #[.int .u64 m.fin, .int .i64 0]) ∧ ∃ F' bv' sv', LogAt w' D L Z F' (dm.append (recB r m.fin)).1 (m.push r) bv' sv' ∧ Chg (uf F (lfoot L bv sv)) (uf F' (lfoot L bv' sv')) w w')

theorem chg_uf {F F' E : Foot} {w w' : World} (h : Chg F F' w w') : Chg (uf F E) (uf F' E) w w' :=
  h.weak (fun k hk => .inl hk) (fun k hk => by
    rcases hk with h1 | h1
    · exact .inl h1
    · exact .inr (.inl (.inr h1)))
theorem chg_ufE {F E E' : Foot} {w w' : World} (h : Chg E E' w w') : Chg (uf F E) (uf F E') w w' :=
  h.weak (fun k hk => .inr hk) (fun k hk => by
    rcases hk with h1 | h1
    · exact .inr (.inl (.inl h1))
    · exact .inl h1)

theorem rdU_one {F F' E : Foot} {w w' : World} {size n : Nat} {v : Value} {xs : List Value} (h : RdV (fun k => F k ∨ E k) w size v n xs) (hc : Chg F F' w w') : RdV (fun k => F' k ∨ E k) w' size v n xs :=
  h.keep (fun k h1 h2 => hc.block k h1 (fun e => h2 (.inl e))) (fun k h1 h2 => h2.imp (fun h3 => (hc.foot k h3).elim id (fun h4 => by omega)) id)
theorem append_ok_log {dm : DM} {b : Bytes} (h : (dm.append b).2 = 0) : (dm.append b).1.log = dm.log ++ b := by
  unfold DM.append at *
  cases hd : dm.dead
  · by_cases hr : dm.room < dm.log.length + b.length
    · simp [hd, hr] at h
    · by_cases hf : dm.fuse = 0
      · simp [hd, hr, hf] at h
      · simp only [hd, hf, if_false, Bool.false_eq_true]
        rw [if_neg hr]
  · simp [hd] at h
end

theorem LM.push_bytes (m : LM) (r : PR) : (m.push r).bytes = m.bytes ++ recB r m.fin := encL_snoc _ _ _
theorem LM.push_offs (m : LM) (r : PR) : offs 0 (m.push r).recs = offs 0 m.recs ++ [lenL m.recs] := by
  have := offs_snoc 0 m.recs r
  rw [Nat.zero_add] at this
  exact this
theorem LM.push_wf {m : LM} {r : PR} (h : m.Wf) (hr : RecOk r) (hl : lenL m.recs + recLen r ≤ 16777216) : (m.push r).Wf :=
  ⟨fun q hq => by
    rcases List.mem_append.1 hq with h1 | h1
    · exact h.recs q h1
    · rw [List.mem_singleton] at h1; subst h1; exact hr, by show lenL (m.recs ++ [r]) ≤ _; rw [lenL_append]; simp [lenL]; exact hl, h.base, by show m.forced ≤ lenL (m.recs ++ [r]); rw [lenL_append]; have := h.forced; omega, h.check⟩

set_option maxHeartbeats 2000000 in
theorem app_dev {G Z : Foot} (w : World) (D L : Nat) (F : Foot) (dm : DM) (m : LM) (bv sv : Value) (r : PR) (x : RV) (h : LogAt w D L Z F dm m bv sv) (hr : RecAt G w r x) (hok : RecOk r) (hsz : szR r ≤ 4194304) (ho : dm.ops < 4398046511104) (hlog : dm.dead = false → dm.log = m.bytes) :
    Calls Try.prog 16 #[.pointer (some ⟨L, 0, none⟩), rval r x] w (AppDev w D L F dm m bv sv r Z) := by
  obtain ⟨da, dn, dc, ca, cn, cc, e1, e2, -⟩ := hr.open
  obtain ⟨ba, bn, bc, sa, sn, sc, rfl, rfl, HN⟩ := h.mem.forms
  have hfin : m.fin < 18446744073709551616 := by unfold LM.fin; have := h.mem.wf.base; have := h.mem.wf.len; omega
  have hby := fun W (hb : Below w.heap.size w W) => bytes_ok W r x m.fin hfin (hr.below hb) hok.good hsz hok.big
  have hen := fun W (hb : Below w.heap.size w W) => l_end (h.below hb).mem
  unfold rval at hby ⊢
  rw [e1, e2] at hby
  rw [e1, e2]
  have HY := Lib.hid hby
  have HE := Lib.hid hen
  have HH := Lib.hid h
  have HOK := Lib.hid hok
  have HOP := Lib.hid ho
  have HLG := Lib.hid hlog
  clear hby hen h hr e1 e2 hok hsz ho hlog hfin
  go_enter Try.func16, Try.ntmps16
  go_wp2_with fail
  refine (HE.out _ ((Below.refl _ _).alloc (Nat.le_refl _) _)).mono ?_
  rintro e w2 ⟨rfl, k2, hk2⟩
  have hb2 : Below w.heap.size w w2 := by rw [hk2]; exact below_drewN ((Below.refl _ _).alloc (Nat.le_refl _) _) k2
  have hbx : w2.heap[w.heap.size]? = some (.cells (rcs r (.slice da dn dc) (.slice ca cn cc)) 26 (0, 0)) := by rw [hk2]; exact heap_alloc_new w _
  obtain ⟨a0, a1, a2, a3, a4, a5⟩ := box6 (w := w) hbx
  have HB2 := Lib.hid hb2
  clear hk2 hb2 hbx
  go_wp2_with fail
  refine (HY.out w2 HB2.out).mono ?_
  rintro e w3 ⟨g, n, c, rfl, HL, hown, hb3⟩
  have hb03 := HB2.out.trans (hb3.mono HB2.out.size)
  have h3 := HH.out.below hb03
  have hrd3 : RdB F w3 (.slice (some ⟨g, 0, none⟩) n c) (recB r m.fin) := hown.rd (fun k hk hF => by have := HH.out.disk.foot_lt k hF; have := HB2.out.size; omega)
  have hrl3 : RdB (fun k => F k ∨ lfoot L (.slice ba bn bc) (.slice sa sn sc) k) w3 (.slice (some ⟨g, 0, none⟩) n c) (recB r m.fin) := hown.rd (fun k hk hF => by
    have := HB2.out.size
    rcases hF with hF | hF
    · have := HH.out.disk.foot_lt k hF; omega
    · have := HH.out.mem.lt k hF; omega)
  have hap := d_append w3 D F dm h3.disk HOP.out _ _ hrd3
  have c0 : w3.cell? ⟨L, 0, none⟩ = some (.pointer (some ⟨D, 0, none⟩)) := h3.mem.cell 0
  have HAP := Lib.hid hap
  have HB03 := Lib.hid hb03
  have H3 := Lib.hid h3
  have HRL := Lib.hid hrl3
  clear hown hb3 hb03 h3 hrd3 hrl3 hap a0 a1 a2 a3 a4 a5
  obtain ⟨k, hk⟩ : ∃ k, (dm.append (recB r m.fin)).2 = k := ⟨_, rfl⟩
  go_wp2_with fail
  refine HAP.out.mono ?_
  rintro e w4 ⟨rfl, F', hd4, hc4⟩
  rw [hk]
  have hne : ∀ k, lfoot L (.slice ba bn bc) (.slice sa sn sc) k → ¬ F k := fun k h1 => HH.out.disk.apart k (.inl h1)
  have hm4 : LMem w4 D L m (.slice ba bn bc) (.slice sa sn sc) := H3.out.mem.keep (fun k h1 => hc4.block k (H3.out.mem.lt k h1) (hne k h1))
  have hrd4 : RdB (fun k => F' k ∨ lfoot L (.slice ba bn bc) (.slice sa sn sc) k) w4 (.slice (some ⟨g, 0, none⟩) n c) (recB r m.fin) := rdU_one HRL.out hc4
  have hchg : Chg (uf F (lfoot L (.slice ba bn bc) (.slice sa sn sc))) (uf F' (lfoot L (.slice ba bn bc) (.slice sa sn sc))) w w4 := (Chg.of_below HB03.out _).trans (chg_uf hc4)
  have HD4 := Lib.hid hd4
  have HM4 := Lib.hid hm4
  have HRD := Lib.hid hrd4
  have HCH := Lib.hid hchg
  have HK := Lib.hid hk
  clear hd4 hc4 hne hm4 hrd4 hchg HAP HRL c0 hk
  by_cases hk0 : k = 0
  · subst hk0
    obtain ⟨hbn, hsn⟩ := HN.out
    have hlg := append_ok_log HK.out
    have hal : dm.dead = false := by
      cases hd : dm.dead
      · rfl
      · have h9 := HK.out; simp [DM.append, hd] at h9
    have hln : lenL m.recs + recLen r ≤ 16777216 := by
      have h8 := HD4.out.wf.room
      have h9 := HD4.out.wf.room24
      have h7 := congrArg List.length hlg
      rw [HLG.out hal, List.length_append, recB_len] at h7
      have e7 : m.bytes.length = lenL m.recs := encL_length _ _
      omega
    have hsn2 : sn < 16777216 := by rw [hsn]; have := lenL_len m.recs; omega
    have hs4 := HM4.out.s
    rw [← hsn] at hs4
    obtain ⟨R, cp, w5, hr5, ho5, hg5, hor5, hlt5⟩ := push_int (w := w4.drew) (ty := 84) bn hs4 (Nat.zero_le _) hsn2
    have c2 : w4.drew.cell? ⟨L, 2, none⟩ = some (.slice ba bn bc) := HM4.out.cell 2
    have c3 : w4.drew.cell? ⟨L, 3, none⟩ = some (.slice sa sn sc) := HM4.out.cell 3
    have hS0 : w4.drew.cell? ⟨L, 2, none⟩ = some (.slice ba bn bc) ∧ w4.drew.cell? ⟨L, 3, none⟩ = some (.slice sa sn sc) := ⟨c2, c3⟩
    have hL4 : L < w4.heap.size := lt_of_block HM4.out.blk
    have kA : (w4.drew.alloc (.cells #[.int .i64 bn] 3)).heap[L]? = some (.cells (lcells D m (.slice ba bn bc) (.slice sa sn sc)) 86 (0, 0)) := (heap_alloc_old _ _ (show L < w4.drew.heap.size from hL4)).trans HM4.out.blk
    have hSA : (w4.drew.alloc (.cells #[.int .i64 bn] 3)).cell? ⟨L, 2, none⟩ = some (.slice ba bn bc) ∧ (w4.drew.alloc (.cells #[.int .i64 bn] 3)).cell? ⟨L, 3, none⟩ = some (.slice sa sn sc) := ⟨cell_of_row _ _ 2 _ _ _ kA, cell_of_row _ _ 3 _ _ _ kA⟩
    have hnS := HM4.out.neS
    have hnB := HM4.out.neB
    have k5 : w5.heap[L]? = some (.cells (lcells D m (.slice ba bn bc) (.slice sa sn sc)) 86 (0, 0)) := by
      rw [hg5.block L (by simp; omega) (fun e => hnS e.symm)]; exact kA
    have hS5 : w5.cell? ⟨L, 2, none⟩ = some (.slice ba bn bc) ∧ w5.cell? ⟨L, 3, none⟩ = some (.slice sa sn sc) := ⟨cell_of_row _ _ 2 _ _ _ k5, cell_of_row _ _ 3 _ _ _ k5⟩
    have f5 : w5.frozen? ⟨L, 3, none⟩ = false := by simp [World.frozen?, k5]
    have hRL : R ≠ L := by
      rcases hor5 with h1 | h1
      · rintro rfl; exact hnS h1
      · have h9 : w4.drew.heap.size = w4.heap.size := rfl; omega
    obtain ⟨w6, hw6⟩ : ∃ w6, w5.setCell ⟨L, 3, none⟩ (.slice (some ⟨R, 0, none⟩) (sn + 1) cp) = w6 := ⟨_, rfl⟩
    have k6 : w6.heap[L]? = some (.cells (lcells D m (.slice ba bn bc) (.slice (some ⟨R, 0, none⟩) (sn + 1) cp)) 86 (0, 0)) := by rw [← hw6]; exact block_setCell k5 _
    have s6 : w6.ownsRow 0 3 1 (.slice (some ⟨R, 0, none⟩) (sn + 1) cp) (sn + 1) (iv (offs 0 m.recs ++ [bn])) := ownsRow_keep ho5 (fun k e => by simp only [Value.ownBlock, Option.some.injEq] at e; subst e; rw [← hw6]; exact block_setCell_ne _ hRL)
    have z6 : w6.heap.size = w5.heap.size := by rw [← hw6]; simp [World.setCell]
    have ch5 : Chg (lfoot L (.slice ba bn bc) (.slice sa sn sc)) (lfoot L (.slice ba bn bc) (.slice (some ⟨R, 0, none⟩) (sn + 1) cp)) w4.drew w5 := chg_app hg5 (fun k e => .inr (.inr e)) (fun k hk => by
      rcases hk with h1 | h1 | h1
      · exact .inl (.inl h1)
      · exact .inl (.inr (.inl h1))
      · simp only [Value.ownBlock, Option.some.injEq] at h1
        subst h1
        rcases hor5 with h2 | h2
        · exact .inl (.inr (.inr h2))
        · exact .inr ⟨by omega, hlt5⟩)
    have ch6 : Chg (lfoot L (.slice ba bn bc) (.slice sa sn sc)) (lfoot L (.slice ba bn bc) (.slice (some ⟨R, 0, none⟩) (sn + 1) cp)) w4 w6 := by
      rw [← hw6]
      exact ((chg_drewN w4 1).trans ch5).trans (chg_setCell _ _ _ (.inl rfl))
    have b6 : OwnB w6 0 5 (.slice ba bn bc) m.bytes := ownB_same HM4.out.b (fun k e => by
      rw [← hw6, block_setCell_ne _ (fun e2 => hnB (by rw [← (show k = L from e2)]; exact e)), hg5.block k (by have := (HM4.out.b.lt k e).2; simp; omega) (fun e2 => HM4.out.neBS k e e2.symm), heap_alloc_old _ _ (show k < w4.drew.heap.size from (HM4.out.b.lt k e).2)]
      rfl)
    have r6 : RdB (fun k => F' k ∨ lfoot L (.slice ba bn bc) (.slice (some ⟨R, 0, none⟩) (sn + 1) cp) k) w6 (.slice (some ⟨g, 0, none⟩) n c) (recB r m.fin) :=
      RdV.keep HRD.out (fun k h1 h2 => ch6.block k h1 (fun e => h2 (.inr e))) (fun k h1 h2 => h2.imp id (fun h3 => (ch6.foot k h3).elim id (fun h4 => by omega)))
    obtain ⟨v7, w7, hr7, o7, g7, ob7, nl7⟩ := append_bytes (ty := 23) b6 r6 (by rw [recB_len]; have e7 : m.bytes.length = lenL m.recs := encL_length _ _; omega) (Nat.zero_le _)
    obtain ⟨Q, nq, cq, rfl, HQ, -, hQ7⟩ := OwnB.formN o7 (by rw [List.length_append, recB_len]; have := recLen_pos r; omega)
    have orQ : (Value.slice ba bn bc).ownBlock = some Q ∨ w6.heap.size ≤ Q := by
      rcases ob7 with h1 | h1
      · exact .inl h1.symm
      · simp only [Value.ownBlock, Option.some.injEq] at h1; exact .inr (by omega)
    have hQL : Q ≠ L := by
      rcases orQ with h1 | h1
      · rintro rfl; exact hnB h1
      · have := lt_of_block k6; omega
    have hRB : (Value.slice ba bn bc).ownBlock ≠ some R := fun e => by
      obtain ⟨cu, hcu⟩ := ownsRow_blk b6 e
      obtain ⟨cv, hcv⟩ := ownsRow_blk s6 (k := R) rfl
      exact blk_ne hcu hcv (by decide) rfl
    have k7 : w7.heap[L]? = some (.cells (lcells D m (.slice ba bn bc) (.slice (some ⟨R, 0, none⟩) (sn + 1) cp)) 86 (0, 0)) := by
      rw [g7.block L (lt_of_block k6) (fun e => hnB e.symm)]; exact k6
    have s7 : w7.ownsRow 0 3 1 (.slice (some ⟨R, 0, none⟩) (sn + 1) cp) (sn + 1) (iv (offs 0 m.recs ++ [bn])) := ownsRow_keep s6 (fun k e => by
      simp only [Value.ownBlock, Option.some.injEq] at e
      subst e
      exact g7.block R (s6.lt R rfl).2 (fun e2 => hRB e2.symm))
    obtain ⟨w8, hw8⟩ : ∃ w8, w7.setCell ⟨L, 2, none⟩ (.slice (some ⟨Q, 0, none⟩) nq cq) = w8 := ⟨_, rfl⟩
    have k8 : w8.heap[L]? = some (.cells (lcells D (m.push r) (.slice (some ⟨Q, 0, none⟩) nq cq) (.slice (some ⟨R, 0, none⟩) (sn + 1) cp)) 86 (0, 0)) := by rw [← hw8]; exact block_setCell k7 _
    have b8 : OwnB w8 0 5 (.slice (some ⟨Q, 0, none⟩) nq cq) (m.push r).bytes := by
      rw [LM.push_bytes]
      exact ownB_same o7 (fun k e => by simp only [Value.ownBlock, Option.some.injEq] at e; subst e; rw [← hw8]; exact block_setCell_ne _ hQL)
    have s8 : w8.ownsRow 0 3 1 (.slice (some ⟨R, 0, none⟩) (sn + 1) cp) (m.push r).recs.length (iv (offs 0 (m.push r).recs)) := by
      rw [LM.push_offs, ← hbn]
      have e9 : (m.push r).recs.length = sn + 1 := by rw [hsn]; show (m.recs ++ [r]).length = _; simp
      rw [e9]
      exact ownsRow_keep s7 (fun k e => by simp only [Value.ownBlock, Option.some.injEq] at e; subst e; rw [← hw8]; exact block_setCell_ne _ hRL)
    have m8 : LMem w8 D L (m.push r) (.slice (some ⟨Q, 0, none⟩) nq cq) (.slice (some ⟨R, 0, none⟩) (sn + 1) cp) := ⟨k8, b8, s8, LM.push_wf HM4.out.wf HOK.out hln⟩
    have ch7 : Chg (lfoot L (.slice ba bn bc) (.slice (some ⟨R, 0, none⟩) (sn + 1) cp)) (lfoot L (.slice (some ⟨Q, 0, none⟩) nq cq) (.slice (some ⟨R, 0, none⟩) (sn + 1) cp)) w6 w7 := chg_app0 g7 (fun k e => .inr (.inl e)) (fun k hk => by
      rcases hk with h1 | h1 | h1
      · exact .inl (.inl h1)
      · simp only [Value.ownBlock, Option.some.injEq] at h1
        subst h1
        rcases orQ with h2 | h2
        · exact .inl (.inr (.inl h2))
        · exact .inr ⟨h2, hQ7⟩
      · exact .inl (.inr (.inr h1)))
    have ch8 : Chg (lfoot L (.slice ba bn bc) (.slice sa sn sc)) (lfoot L (.slice (some ⟨Q, 0, none⟩) nq cq) (.slice (some ⟨R, 0, none⟩) (sn + 1) cp)) w4 w8 := by
      rw [← hw8]
      exact (ch6.trans ch7).trans (chg_setCell _ _ _ (.inl rfl))
    have fin8 : LogAt w8 D L Z F' (dm.append (recB r m.fin)).1 (m.push r) (.slice (some ⟨Q, 0, none⟩) nq cq) (.slice (some ⟨R, 0, none⟩) (sn + 1) cp) := ⟨HD4.out.chgE (chg_uf ch8), m8⟩
    have d6 : w6.cell? ⟨L, 2, none⟩ = some (.slice ba bn bc) := cell_of_row _ _ 2 _ _ _ k6
    have d7 : w7.cell? ⟨L, 2, none⟩ = some (.slice ba bn bc) := cell_of_row _ _ 2 _ _ _ k7
    have f7 : w7.frozen? ⟨L, 2, none⟩ = false := by simp [World.frozen?, k7]
    have HFIN := Lib.hid (And.intro fin8 (HCH.out.trans (chg_ufE ch8)))
    have HR5 := Lib.hid hr5
    have HR7 := Lib.hid hr7
    clear hbn hsn hlg hal hln hsn2 hs4 ho5 hg5 hor5 hlt5 hr5 c2 c3 kA hnS hnB k5 hRL k6 s6 z6 ch5 ch6 b6 r6 hr7 o7 g7 ob7 nl7 hQ7 orQ hQL hRB k7 s7 k8 b8 s8 m8 ch7 ch8 fin8 hL4
    go_upto_region 8 with (fail)
    refine wp_region_U (fun W => W.cell? ⟨L, 2, none⟩ = some (.slice ba bn bc) ∧ W.cell? ⟨L, 3, none⟩ = some (.slice sa sn sc)) [14] (by kernel_rfl) ?_
    refine wpAnyU_take (i := 0) [12, 13, 14] rfl (by as_aux_lemma => kernel_rfl) (by as_aux_lemma => kernel_rfl) (by as_aux_lemma => kernel_rfl) (by as_aux_lemma => kernel_rfl) (by as_aux_lemma => kernel_rfl) (by as_aux_lemma => kernel_rfl) (fun _ _ _ h => h) (Or.inl ⟨by rfl, (by intro W hSW; (try dsimp only at hSW); (try go_split_ands); go_simp <;> with_reducible rfl)⟩) hS0 ?_
    try simp only [Act.put, List.getElem_toArray, List.getElem_cons_succ, List.getElem_cons_zero, List.setIfInBounds_toArray, List.set_cons_zero, List.set_cons_succ]
    refine wpAnyU_take (i := 1) [2, 3, 4, 11, 12, 13, 14] rfl (by as_aux_lemma => kernel_rfl) (by as_aux_lemma => kernel_rfl) (by as_aux_lemma => kernel_rfl) (by as_aux_lemma => kernel_rfl) (by as_aux_lemma => kernel_rfl) (by as_aux_lemma => kernel_rfl) (fun _ _ _ h => h) (Or.inl ⟨by rfl, (by intro W hSW; (try dsimp only at hSW); (try go_split_ands); go_simp <;> with_reducible rfl)⟩) hS0 ?_
    try simp only [Act.put, List.getElem_toArray, List.getElem_cons_succ, List.getElem_cons_zero, List.setIfInBounds_toArray, List.set_cons_zero, List.set_cons_succ]
    refine wpAnyU_take (i := 2) [3, 4, 11, 12, 13, 14] rfl (by as_aux_lemma => kernel_rfl) (by as_aux_lemma => kernel_rfl) (by as_aux_lemma => kernel_rfl) (by as_aux_lemma => kernel_rfl) (by as_aux_lemma => kernel_rfl) (by as_aux_lemma => kernel_rfl) (fun _ _ _ h => h) (Or.inl ⟨by rfl, (by intro W hSW; (try dsimp only at hSW); (try go_split_ands); go_simp <;> with_reducible rfl)⟩) hS0 ?_
    try simp only [Act.put, List.getElem_toArray, List.getElem_cons_succ, List.getElem_cons_zero, List.setIfInBounds_toArray, List.set_cons_zero, List.set_cons_succ]
    refine wpAnyU_take (i := 3) [4, 11, 12, 13, 14] rfl (by as_aux_lemma => kernel_rfl) (by as_aux_lemma => kernel_rfl) (by as_aux_lemma => kernel_rfl) (by as_aux_lemma => kernel_rfl) (by as_aux_lemma => kernel_rfl) (by as_aux_lemma => kernel_rfl) (fun _ _ _ h => h) (Or.inl ⟨by rfl, (by intro W hSW; (try dsimp only at hSW); (try go_split_ands); go_simp <;> with_reducible rfl)⟩) hS0 ?_
    try simp only [Act.put, List.getElem_toArray, List.getElem_cons_succ, List.getElem_cons_zero, List.setIfInBounds_toArray, List.set_cons_zero, List.set_cons_succ]
    refine wpAnyU_take (i := 4) [11, 12, 13, 14] rfl (by as_aux_lemma => kernel_rfl) (by as_aux_lemma => kernel_rfl) (by as_aux_lemma => kernel_rfl) (by as_aux_lemma => kernel_rfl) (by as_aux_lemma => kernel_rfl) (by as_aux_lemma => kernel_rfl) (fun _ _ _ h => h) (Or.inl ⟨by rfl, (by intro W hSW; (try dsimp only at hSW); (try go_split_ands); go_simp <;> with_reducible rfl)⟩) hS0 ?_
    try simp only [Act.put, List.getElem_toArray, List.getElem_cons_succ, List.getElem_cons_zero, List.setIfInBounds_toArray, List.set_cons_zero, List.set_cons_succ]
    refine wpAnyU_take (i := 5) [6, 7, 8, 9, 10, 11, 12, 13, 14] rfl (by as_aux_lemma => kernel_rfl) (by as_aux_lemma => kernel_rfl) (by as_aux_lemma => kernel_rfl) (by as_aux_lemma => kernel_rfl) (by as_aux_lemma => kernel_rfl) (by as_aux_lemma => kernel_rfl) (fun _ _ _ h => h) (Or.inl ⟨by rfl, (by intro W hSW; (try dsimp only at hSW); (try go_split_ands); go_simp <;> with_reducible rfl)⟩) hS0 ?_
    try simp only [Act.put, List.getElem_toArray, List.getElem_cons_succ, List.getElem_cons_zero, List.setIfInBounds_toArray, List.set_cons_zero, List.set_cons_succ]
    refine wpAnyU_take (i := 6) [7, 8, 9, 10, 11, 12, 13, 14] rfl (by as_aux_lemma => kernel_rfl) (by as_aux_lemma => kernel_rfl) (by as_aux_lemma => kernel_rfl) (by as_aux_lemma => kernel_rfl) (by as_aux_lemma => kernel_rfl) (by as_aux_lemma => kernel_rfl) (fun _ _ _ h => h) (Or.inl ⟨by rfl, (by intro W hSW; (try dsimp only at hSW); (try go_split_ands); go_simp <;> with_reducible rfl)⟩) hS0 ?_
    try simp only [Act.put, List.getElem_toArray, List.getElem_cons_succ, List.getElem_cons_zero, List.setIfInBounds_toArray, List.set_cons_zero, List.set_cons_succ]
    refine wpAnyU_take (i := 7) [8, 9, 10, 11, 12, 13, 14] rfl (by as_aux_lemma => kernel_rfl) (by as_aux_lemma => kernel_rfl) (by as_aux_lemma => kernel_rfl) (by as_aux_lemma => kernel_rfl) (by as_aux_lemma => kernel_rfl) (by as_aux_lemma => kernel_rfl) (fun _ _ _ h => h) (Or.inl ⟨by rfl, (by intro W hSW; (try dsimp only at hSW); (try go_split_ands); go_simp <;> with_reducible rfl)⟩) hS0 ?_
    try simp only [Act.put, List.getElem_toArray, List.getElem_cons_succ, List.getElem_cons_zero, List.setIfInBounds_toArray, List.set_cons_zero, List.set_cons_succ]
    refine wpAnyU_take (i := 8) [9, 10, 11, 12, 13, 14] rfl (by as_aux_lemma => kernel_rfl) (by as_aux_lemma => kernel_rfl) (by as_aux_lemma => kernel_rfl) (by as_aux_lemma => kernel_rfl) (by as_aux_lemma => kernel_rfl) (by as_aux_lemma => kernel_rfl) (fun _ _ _ h => h) (Or.inl ⟨by rfl, (by intro W hSW; (try dsimp only at hSW); (try go_split_ands); go_simp <;> with_reducible rfl)⟩) hS0 ?_
    try simp only [Act.put, List.getElem_toArray, List.getElem_cons_succ, List.getElem_cons_zero, List.setIfInBounds_toArray, List.set_cons_zero, List.set_cons_succ]
    refine wpAnyU_take (i := 9) [10, 11, 12, 13, 14] rfl (by as_aux_lemma => kernel_rfl) (by as_aux_lemma => kernel_rfl) (by as_aux_lemma => kernel_rfl) (by as_aux_lemma => kernel_rfl) (by as_aux_lemma => kernel_rfl) (by as_aux_lemma => kernel_rfl) (fun _ _ _ h => h) (Or.inl ⟨by rfl, (by intro W hSW; (try dsimp only at hSW); (try go_split_ands); go_simp <;> with_reducible rfl)⟩) hS0 ?_
    try simp only [Act.put, List.getElem_toArray, List.getElem_cons_succ, List.getElem_cons_zero, List.setIfInBounds_toArray, List.set_cons_zero, List.set_cons_succ]
    refine wpAnyU_one (i := 10) (by kernel_rfl) rfl (fun K hK => ?_)
    go_simp
    refine hK.out _ _ (fun _ => hSA) (fun _ => ?_)
    clear hK K
    try simp only [Act.put, List.getElem_toArray, List.getElem_cons_succ, List.getElem_cons_zero, List.setIfInBounds_toArray, List.set_cons_zero, List.set_cons_succ]
    refine wpAnyU_one (i := 11) (by kernel_rfl) rfl (fun K hK => ?_)
    refine step_append_is rfl rfl HR5.out rfl rfl ?_
    refine hK.out _ _ (fun _ => hS5) (fun _ => ?_)
    clear hK K
    try simp only [Act.put, List.getElem_toArray, List.getElem_cons_succ, List.getElem_cons_zero, List.setIfInBounds_toArray, List.set_cons_zero, List.set_cons_succ]
    refine wpAnyU_take (i := 12) [13, 14] rfl (by as_aux_lemma => kernel_rfl) (by as_aux_lemma => kernel_rfl) (by as_aux_lemma => kernel_rfl) (by as_aux_lemma => kernel_rfl) (by as_aux_lemma => kernel_rfl) (by as_aux_lemma => kernel_rfl) (fun _ _ _ h => h) (Or.inl ⟨by rfl, (by intro W hSW; (try dsimp only at hSW); (try go_split_ands); go_simp <;> with_reducible rfl)⟩) hS5 ?_
    try simp only [Act.put, List.getElem_toArray, List.getElem_cons_succ, List.getElem_cons_zero, List.setIfInBounds_toArray, List.set_cons_zero, List.set_cons_succ]
    refine wpAnyU_take (i := 13) [14] rfl (by as_aux_lemma => kernel_rfl) (by as_aux_lemma => kernel_rfl) (by as_aux_lemma => kernel_rfl) (by as_aux_lemma => kernel_rfl) (by as_aux_lemma => kernel_rfl) (by as_aux_lemma => kernel_rfl) (fun _ _ _ h => h) (Or.inl ⟨by rfl, (by intro W hSW; (try dsimp only at hSW); (try go_split_ands); go_simp <;> with_reducible rfl)⟩) hS5 ?_
    try simp only [Act.put, List.getElem_toArray, List.getElem_cons_succ, List.getElem_cons_zero, List.setIfInBounds_toArray, List.set_cons_zero, List.set_cons_succ]
    refine wpAnyU_one (i := 14) (by kernel_rfl) rfl (fun K hK => ?_)
    go_simp
    refine hK.out _ _ (fun h => absurd h (by decide)) (fun _ => ?_)
    clear hK K
    try simp only [Act.put, List.getElem_toArray, List.getElem_cons_succ, List.getElem_cons_zero, List.setIfInBounds_toArray, List.set_cons_zero, List.set_cons_succ]
    refine wpAnyU_done (by kernel_rfl) ?_ _
    clear hS0 hSA hS5 f5
    go_wp2_with (at_builtin; refine wpList_append_eq rfl rfl HR7.out rfl rfl ?_)
    go_ret2
    exact .inr ⟨HK.out, rfl, F', _, _, HFIN.out.1, HFIN.out.2⟩
  · have hz : (k != 0) = true := by simpa using hk0
    go_wp2
    go_ret2
    exact .inl ⟨by rw [HK.out]; exact hk0, by rw [HK.out]; rfl, F', ⟨HD4.out, HM4.out⟩, HCH.out⟩
end Mun
end

section
/- Contracts of a log: where a record stands. -/
set_option maxRecDepth 100000
set_option linter.unusedVariables false
set_option linter.unusedSimpArgs false
namespace Mun
open Go Go.RowKit
open Go.Proofs

theorem drewN_two (w : World) (k n : Nat) : ∃ j, (w.drewN k).drewN n = w.drewN j := ⟨_, World.drewN_drewN w k n⟩

def LM.off (m : LM) (i : Nat) : Nat := lenL (m.recs.take i)

theorem LMem.start {w : World} {D L : Nat} {m : LM} {bv sv : Value} (h : LMem w D L m bv sv) {sa : Option Addr} {sn sc : Nat} (e : sv = .slice sa sn sc) (i : Nat) (hi : i < m.recs.length) :
    ∃ g, sa = some ⟨g, 0, none⟩ ∧ w.cell? ⟨g, i, none⟩ = some (.int .i64 (m.off i : Nat)) := by
  subst e
  rcases h.s.2 with ⟨h0, h1⟩ | ⟨g, cap, cur, h0, h1, h2, h3⟩
  · omega
  · injection h0 with e1 e2 e3
    subst e1
    refine ⟨g, rfl, ?_⟩
    have := h.s.cells (g := g) rfl i (.int .i64 (m.off i : Nat)) (by
      unfold iv
      rw [List.getElem?_map, offs_get _ _ _ hi]
      simp [LM.off])
    simpa [addr_add] using this

/-- what find finds -/
structure Fnd (m : LM) (lsn f : Nat) : Prop where
  le : f ≤ m.recs.length
  lo : ∀ i, i < f → m.base + m.off i < lsn
  hi : ∀ i, f ≤ i → i < m.recs.length → lsn ≤ m.base + m.off i

def FndOut (w : World) (m : LM) (lsn : Nat) (e : Ending) (w' : World) : Prop := ∃ f : Nat, e = .returned (.int .i64 f) ∧ Fnd m lsn f ∧ ∃ k, w' = w.drewN k

set_option maxHeartbeats 1000000 in
theorem l_find (w : World) (D L : Nat) (m : LM) (bv sv : Value) (lsn : Nat) (h : LMem w D L m bv sv) :
    Calls Try.prog 55 #[.pointer (some ⟨L, 0, none⟩), .int .u64 lsn] w (FndOut w m lsn) := by
  obtain ⟨ba, bn, bc, sa, sn, sc, rfl, rfl, HN⟩ := h.forms
  have c3 : w.cell? ⟨L, 3, none⟩ = some (.slice sa sn sc) := h.cell 3
  have c1 : w.cell? ⟨L, 1, none⟩ = some (.int .u64 m.base) := h.cell 1
  have hsn : sn ≤ 16777216 := by rw [HN.out.2]; have := lenL_len m.recs; have := h.wf.len; omega
  have hsi : (sn : Int) ≤ 16777216 := by omega
  have HH := Lib.hid h
  clear h hsn
  go_enter Try.func55, Try.ntmps55
  go_upto_region 1 with (fail)
  go_quiet (fail)
  go_wp2
  go_loopw [5, 6] (fun lo hi wr => ∃ a b : Nat, lo = .int .i64 a ∧ hi = .int .i64 b ∧ a ≤ b ∧ b ≤ sn ∧ (∀ i, i < a → m.base + m.off i < lsn) ∧ (∀ i, b ≤ i → i < sn → lsn ≤ m.base + m.off i) ∧ ∃ k, wr = w.drewN k) (fun lo hi _ => (intOf hi).toNat - (intOf lo).toNat)
  case atStart => exact ⟨0, sn, rfl, rfl, Nat.zero_le _, Nat.le_refl _, fun i hi => absurd hi (Nat.not_lt_zero _), fun i h1 h2 => by omega, _, rfl⟩
  case round =>
    obtain ⟨a, b, rfl, rfl, hab, hbn, hlo, hhi, k, rfl⟩ := hrel
    have a0 : (0 : Int) ≤ (a : Int) := by omega
    have b0 : (b : Int) ≤ 16777216 := by omega
    have a1 : (a : Int) ≤ 16777216 := by omega
    by_cases hlt : a < b
    · obtain ⟨mid, hmid⟩ : ∃ mid, (a + b) / 2 = mid := ⟨_, rfl⟩
      have m1 : a ≤ mid := by omega
      have m2 : mid < b := by omega
      obtain ⟨g, rfl, cm⟩ := HH.out.start rfl mid (by rw [← HN.out.2]; omega)
      have ho1 : m.off mid ≤ 16777216 := Nat.le_trans (lenL_take_le _ _) HH.out.wf.len
      obtain ⟨o, ho⟩ : ∃ o, m.off mid = o := ⟨_, rfl⟩
      rw [ho] at cm ho1
      have v1 : IntKind.u64.wrap (o : Int) = (o : Int) := wrap_u64_nat _ (by omega)
      have v2 : IntKind.u64.wrap ((m.base : Int) + (o : Int)) = (m.base : Int) + (o : Int) := by
        have := wrap_u64_nat (m.base + o) (by have := HH.out.wf.base; omega)
        push_cast at this
        exact this
      have em : ((a : Int) + (b : Int)) / 2 = (mid : Int) := by omega
      have i1 : (mid : Int) < (sn : Int) := by omega
      have i0 : (0 : Int) ≤ (mid : Int) := by omega
      have HM := Lib.hid (And.intro m1 (And.intro m2 (And.intro ho hlt)))
      have HLO := Lib.hid hlo
      have HHI := Lib.hid hhi
      have HBN := Lib.hid (And.intro hab hbn)
      clear m1 m2 ho ho1 hlo hhi hab hbn hmid
      go_upto_region 4 with (fail)
      go_quiet (fail)
      by_cases hb : m.base + o < lsn
      · have hbi : ((m.base : Int) + (o : Int)) < (lsn : Int) := by omega
        have HBB := Lib.hid hb
        clear hb
        go_wp2
        go_roundw
        case rel =>
          obtain ⟨m1, m2, ho, _⟩ := HM.out
          refine ⟨mid + 1, b, by go_num, rfl, by omega, HBN.out.2, fun i hi => ?_, HHI.out, (by first | exact ⟨_, rfl⟩ | exact drewN_two _ _ _)⟩
          have h1 : m.off i ≤ m.off mid := lenL_take_mono _ (by omega)
          have := HBB.out
          omega
        case measure => obtain ⟨m1, m2, ho, _⟩ := HM.out; simp [intOf]; omega
      · have hbi : ¬ ((m.base : Int) + (o : Int)) < (lsn : Int) := by omega
        have HBB := Lib.hid hb
        clear hb
        go_wp2
        go_roundw
        case rel =>
          obtain ⟨m1, m2, ho, _⟩ := HM.out
          refine ⟨a, mid, rfl, by rw [em], m1, by have := HBN.out.2; omega, HLO.out, fun i h1 h2 => ?_, (by first | exact ⟨_, rfl⟩ | exact drewN_two _ _ _)⟩
          have h3 : m.off mid ≤ m.off i := lenL_take_mono _ h1
          have := HBB.out
          omega
        case measure => obtain ⟨m1, m2, ho, _⟩ := HM.out; simp [intOf]; omega
    · obtain rfl : a = b := by omega
      have HF : Hid (Fnd m lsn a) := ⟨by rw [← HN.out.2]; exact hbn, hlo, fun i h1 h2 => hhi i h1 (by rw [HN.out.2]; exact h2)⟩
      clear hlo hhi hab hbn
      go_wp2
      go_ret
      exact ⟨a, rfl, HF.out, _, rfl⟩

theorem Fnd.yes {m : LM} {lsn f i : Nat} (h : Fnd m lsn f) (hi : i < m.recs.length) (he : m.base + m.off i = lsn) : f = i := by
  rcases Nat.lt_trichotomy f i with h1 | h1 | h1
  · have h2 := h.hi f (Nat.le_refl _) (by omega)
    have h3 : m.off f < m.off i := lenL_take_lt _ h1 (by omega)
    omega
  · exact h1
  · have := h.lo i h1; omega

/-- no record begins there -/
def NoRec (m : LM) (lsn : Nat) : Prop := ∀ i, i < m.recs.length → m.base + m.off i ≠ lsn

set_option maxHeartbeats 1000000 in
theorem l_has_yes (w : World) (D L : Nat) (m : LM) (bv sv : Value) (lsn i : Nat) (h : LMem w D L m bv sv) (hi : i < m.recs.length) (he : m.base + m.off i = lsn) :
    Calls Try.prog 42 #[.pointer (some ⟨L, 0, none⟩), .int .u64 lsn] w fun e w' => e = .returned (.bool true) ∧ ∃ k, w' = w.drewN k := by
  obtain ⟨ba, bn, bc, sa, sn, sc, rfl, rfl, HN⟩ := h.forms
  have c3 : w.cell? ⟨L, 3, none⟩ = some (.slice sa sn sc) := h.cell 3
  have c1 : w.cell? ⟨L, 1, none⟩ = some (.int .u64 m.base) := h.cell 1
  obtain ⟨g, rfl, cm⟩ := h.start rfl i hi
  have ho1 : m.off i ≤ 16777216 := Nat.le_trans (lenL_take_le _ _) h.wf.len
  have hfi := l_find w D L m _ _ lsn h
  have hbs := h.wf.base
  have hsn : i < sn := by rw [HN.out.2]; exact hi
  have hs2 : sn ≤ 16777216 := by rw [HN.out.2]; have := lenL_len m.recs; have := h.wf.len; omega
  obtain ⟨o, ho⟩ : ∃ o, m.off i = o := ⟨_, rfl⟩
  have HO := Lib.hid (And.intro hi he)
  rw [ho] at cm ho1 he
  have v1 : IntKind.u64.wrap (o : Int) = (o : Int) := wrap_u64_nat _ (by omega)
  have v2 : IntKind.u64.wrap ((m.base : Int) + (o : Int)) = (m.base : Int) + (o : Int) := by
    have := wrap_u64_nat (m.base + o) (by omega)
    push_cast at this
    exact this
  have i0 : (0 : Int) ≤ (i : Int) := by omega
  have i1 : (i : Int) < (sn : Int) := by omega
  have q1 : ((m.base : Int) + (o : Int) == (lsn : Int)) = true := by simp; omega
  have HFI := Lib.hid hfi
  clear h hi he ho ho1 hfi hbs hs2
  go_enter Try.func42, Try.ntmps42
  go_wp2_with fail
  refine HFI.out.mono ?_
  rintro e w2 ⟨f, rfl, hf, k, rfl⟩
  obtain rfl := hf.yes HO.out.1 HO.out.2
  go_upto_region 2 with (fail)
  have d1 : decide ((f : Int) < (sn : Int)) = true := decide_eq_true i1
  go_quiet (fail)
  go_wp2
  go_ret
  exact ⟨rfl, drewN_two _ _ _⟩

set_option maxHeartbeats 1000000 in
theorem l_has_no (w : World) (D L : Nat) (m : LM) (bv sv : Value) (lsn : Nat) (h : LMem w D L m bv sv) (hno : NoRec m lsn) :
    Calls Try.prog 42 #[.pointer (some ⟨L, 0, none⟩), .int .u64 lsn] w fun e w' => e = .returned (.bool false) ∧ ∃ k, w' = w.drewN k := by
  obtain ⟨ba, bn, bc, sa, sn, sc, rfl, rfl, HN⟩ := h.forms
  have c3 : w.cell? ⟨L, 3, none⟩ = some (.slice sa sn sc) := h.cell 3
  have c1 : w.cell? ⟨L, 1, none⟩ = some (.int .u64 m.base) := h.cell 1
  have hfi := l_find w D L m _ _ lsn h
  have hbs := h.wf.base
  have hs2 : sn ≤ 16777216 := by rw [HN.out.2]; have := lenL_len m.recs; have := h.wf.len; omega
  have HFI := Lib.hid hfi
  have HH := Lib.hid h
  have HNO := Lib.hid hno
  clear h hfi hno
  go_enter Try.func42, Try.ntmps42
  go_wp2_with fail
  refine HFI.out.mono ?_
  rintro e w2 ⟨f, rfl, hf, k, rfl⟩
  have hfs : f ≤ sn := by rw [HN.out.2]; exact hf.le
  by_cases hlt : f < sn
  · obtain ⟨g, rfl, cm⟩ := HH.out.start rfl f (by rw [← HN.out.2]; exact hlt)
    have ho1 : m.off f ≤ 16777216 := Nat.le_trans (lenL_take_le _ _) HH.out.wf.len
    have hne := HNO.out f (by rw [← HN.out.2]; exact hlt)
    obtain ⟨o, ho⟩ : ∃ o, m.off f = o := ⟨_, rfl⟩
    rw [ho] at cm ho1 hne
    have v1 : IntKind.u64.wrap (o : Int) = (o : Int) := wrap_u64_nat _ (by omega)
    have v2 : IntKind.u64.wrap ((m.base : Int) + (o : Int)) = (m.base : Int) + (o : Int) := by
      have := wrap_u64_nat (m.base + o) (by omega)
      push_cast at this
      exact this
    have i0 : (0 : Int) ≤ (f : Int) := by omega
    have i1 : (f : Int) < (sn : Int) := by omega
    have q1 : ((m.base : Int) + (o : Int) == (lsn : Int)) = false := by simp; omega
    clear hf hfs ho ho1 hne hbs hs2 hlt
    go_upto_region 2 with (fail)
    have d1 : decide ((f : Int) < (sn : Int)) = true := decide_eq_true i1
    go_quiet (fail)
    go_wp2
    go_ret
    exact ⟨rfl, drewN_two _ _ _⟩
  · have i1 : ¬ (f : Int) < (sn : Int) := by omega
    clear hf hfs hbs hs2 hlt
    go_upto_region 2 with (fail)
    have d1 : decide ((f : Int) < (sn : Int)) = false := decide_eq_false (by omega)
    have d2 : decide (f < sn) = false := decide_eq_false (by omega)
    clear i1
    go_quiet (fail)
    go_wp2
    go_ret
    exact ⟨rfl, drewN_two _ _ _⟩
end Mun
end

section
/- Contracts of a log: Read. -/
set_option maxRecDepth 100000
set_option linter.unusedVariables false
set_option linter.unusedSimpArgs false
namespace Mun
open Go Go.RowKit
open Go.Proofs

theorem step_store_is {P : Program} {ops : Array Oper} {o : Oper} {a : Act} {w : World} {K : Act → World → Prop} {Q : Exit → Act → World → Prop} {E : Prop} (hgd : o.guard = none) (ty : TypeId) (x y : Operand) (ho : o.op = .store ty x y)
    (g : Nat) (cells : Array Value) (hx : a.eval x = .pointer (some ⟨g, 0, none⟩)) (hy : a.eval y = .agg cells)
    (t : TypeId) (old : Array Value) (hg : w.heap[g]? = some (.cells old t (0, 0))) (hi : (P.info? ty).map (·.size) = some cells.size)
    (hold : old.size = cells.size) (h1 : cells.all (·.oneCell') = true) (h : K (a.put o.dst undef) (w.setRow g cells)) :
    if Region.wanted o (yielded ops a.tmps) = true then Oper.wp P o a w K Q else E := by
  have hw : Region.wanted o (yielded ops a.tmps) = true := by simp [Region.wanted, hgd]
  rw [if_pos hw]
  exact wp_store_row ty x y ho g cells hx hy t old hg hi hold h1 h

theorem yields_load_row {P : Program} {ops : Array Oper} {S : World → Prop} {o : Oper} {a : Act} (hw : Region.wanted o (yielded ops a.tmps) = true) (ty : TypeId) (x : Operand) (ho : o.op = .load ty x)
    (g : Nat) (hx : a.eval x = .pointer (some ⟨g, 0, none⟩)) (t : TypeId) (cs : Array Value) (fr : Nat × Nat) (d : TypeDesc) (hg : ∀ w, S w → w.heap[g]? = some (.cells cs t fr))
    (hu : P.underlying ty = some d) (hd : (match d with | .struct _ | .array _ _ => true | _ => false) = true) (hi : (P.info? ty).map (·.size) = some cs.size) : YieldsIf P ops S o (.agg cs) a := by
  refine .inl ⟨hw, fun w hS => ?_⟩
  unfold execOp
  simp only [ho, hx, Instr.loadAt, Instr.sureAddr, Sem.run_bind, Sem.run_pure, Result.andThen_ok, run_loadVar_row w g t ty cs fr d (hg w hS) hu hd hi]

def ReadNo (w : World) (k : Int) (e : Ending) (w' : World) : Prop := e = .returned (.tuple #[noR, .int .u64 0, .int .i64 k]) ∧ Below w.heap.size w w'
def ReadYes (w : World) (r : PR) (next : Nat) (e : Ending) (w' : World) : Prop := ∃ x, e = .returned (.tuple #[rval r x, .int .u64 next, .int .i64 0]) ∧ RecAt (OldF w.heap.size) w' r x ∧ Below w.heap.size w w'

theorem no_cells {w : World} {b : Nat} {ty : TypeId} (h : w.heap[b]? = some (.cells noCs ty (0, 0))) :
    w.cell? ⟨b, 0, none⟩ = some (.int .i64 0) ∧ w.cell? ⟨b, 1, none⟩ = some (.int .u64 0) ∧ w.cell? ⟨b, 2, none⟩ = some (.int .u64 0) ∧ w.cell? ⟨b, 3, none⟩ = some (.int .u64 0) ∧ w.cell? ⟨b, 4, none⟩ = some (.slice none 0 0) ∧ w.cell? ⟨b, 5, none⟩ = some (.slice none 0 0) :=
  ⟨cell_of_row _ _ 0 _ _ _ h, cell_of_row _ _ 1 _ _ _ h, cell_of_row _ _ 2 _ _ _ h, cell_of_row _ _ 3 _ _ _ h, cell_of_row _ _ 4 _ _ _ h, cell_of_row _ _ 5 _ _ _ h⟩

section
variable (w : World) (D L : Nat) (m : LM) (bv sv : Value)

theorem l_read_end (h : LMem w D L m bv sv) : Calls Try.prog 19 #[.pointer (some ⟨L, 0, none⟩), .int .u64 m.fin] w (ReadNo w 17) := by
  have hb1 : Below w.heap.size w (w.alloc (.cells noCs 26)) := (Below.refl _ _).alloc (Nat.le_refl _) _
  have hen := l_end (h.keep (w' := w.alloc (.cells noCs 26)) (fun k hk => heap_alloc_old _ _ (h.lt k hk)))
  have HE := Lib.hid hen
  clear h hen
  go_enter Try.func19, Try.ntmps19
  go_wp2_with fail
  refine HE.out.mono ?_
  rintro e w2 ⟨rfl, k2, hk2⟩
  have hb2 : Below w.heap.size w w2 := by rw [hk2]; exact below_drewN hb1 k2
  have hbx : w2.heap[w.heap.size]? = some (.cells noCs 26 (0, 0)) := by rw [hk2]; exact heap_alloc_new w _
  have hself := setRow_self w2 w.heap.size _ _ _ hbx
  have HB2 := Lib.hid hb2
  have HBX := Lib.hid hbx
  have HSELF := Lib.hid hself
  clear hb1 hb2 hbx hself hk2
  go_wp2_with (refine wpList_store_row rfl _ _ _ rfl w.heap.size noCs rfl rfl _ _ HBX.out infoR rfl noCs_one ?_; rw [HSELF.out])
  obtain ⟨q0, q1, q2, q3, q4, q5⟩ := no_cells HBX.out
  refine bodyPost_ret (by simp [results, Try.results19, go_sem, q0, q1, q2, q3, q4, q5]; try rfl) rfl ?_
  exact ⟨rfl, HB2.out⟩

theorem l_read_no (lsn : Nat) (h : LMem w D L m bv sv) (hne : lsn ≠ m.fin) (hno : NoRec m lsn) : Calls Try.prog 19 #[.pointer (some ⟨L, 0, none⟩), .int .u64 lsn] w (ReadNo w 1) := by
  have hb1 : Below w.heap.size w (w.alloc (.cells noCs 26)) := (Below.refl _ _).alloc (Nat.le_refl _) _
  have hm1 := h.keep (w' := w.alloc (.cells noCs 26)) (fun k hk => heap_alloc_old _ _ (h.lt k hk))
  have hen := l_end hm1
  have HE := Lib.hid hen
  have HM := Lib.hid h
  have HNO := Lib.hid hno
  have q1 : ((lsn : Int) == (m.fin : Int)) = false := by simp; omega
  clear h hen hm1 hne hno
  go_enter Try.func19, Try.ntmps19
  go_wp2_with fail
  refine HE.out.mono ?_
  rintro e w2 ⟨rfl, k2, hk2⟩
  have hb2 : Below w.heap.size w w2 := by rw [hk2]; exact below_drewN hb1 k2
  have hbx : w2.heap[w.heap.size]? = some (.cells noCs 26 (0, 0)) := by rw [hk2]; exact heap_alloc_new w _
  have hha := l_has_no w2 D L m bv sv lsn (HM.out.keep (fun k hk => hb2.block k (HM.out.lt k hk))) HNO.out
  have HHA := Lib.hid hha
  have HBB := Lib.hid (And.intro hb2 hbx)
  clear hb1 hb2 hbx hha hk2
  go_wp2_with fail
  refine HHA.out.mono ?_
  rintro e w3 ⟨rfl, k3, hk3⟩
  have hb3 : Below w.heap.size w w3 := by rw [hk3]; exact below_drewN HBB.out.1 k3
  have hbx : w3.heap[w.heap.size]? = some (.cells noCs 26 (0, 0)) := by rw [hk3]; exact HBB.out.2
  have hself := setRow_self w3 w.heap.size _ _ _ hbx
  have HB2 := Lib.hid hb3
  have HBX := Lib.hid hbx
  have HSELF := Lib.hid hself
  clear hb3 hbx hself hk3
  go_wp2_with (refine wpList_store_row rfl _ _ _ rfl w.heap.size noCs rfl rfl _ _ HBX.out infoR rfl noCs_one ?_; rw [HSELF.out])
  obtain ⟨q0, q1, q2, q3, q4, q5⟩ := no_cells HBX.out
  refine bodyPost_ret (by simp [results, Try.results19, go_sem, q0, q1, q2, q3, q4, q5]; try rfl) rfl ?_
  exact ⟨rfl, HB2.out⟩

set_option maxHeartbeats 500000 in
theorem l_read_yes (i : Nat) (h : LMem w D L m bv sv) (hi : i < m.recs.length) : Calls Try.prog 19 #[.pointer (some ⟨L, 0, none⟩), .int .u64 (m.base + m.off i : Nat)] w (ReadYes w m.recs[i] (m.base + m.off (i + 1))) := by
  have hb1 : Below w.heap.size w (w.alloc (.cells noCs 26)) := (Below.refl _ _).alloc (Nat.le_refl _) _
  have hm1 := h.keep (w' := w.alloc (.cells noCs 26)) (fun k hk => heap_alloc_old _ _ (h.lt k hk))
  have hen := l_end hm1
  obtain ⟨ba, bn, bc, sa, sn, sc, rfl, rfl, HN⟩ := h.forms
  have hlt := lenL_take_lt m.recs (i := i) (j := m.recs.length) hi hi
  rw [List.take_length] at hlt
  have hok : RecOk m.recs[i] := h.wf.recs _ (List.getElem_mem hi)
  have hdrop := encL_drop m.recs m.base i hi
  have hnx : m.off (i + 1) = m.off i + 8 + (bodyR m.recs[i]).length := by have := lenL_take_succ m.recs i hi; unfold LM.off recLen at *; omega
  have hpart := rec_parts m.bytes (m.off i) m.recs[i] (m.base + m.off i) _ hdrop hok.big
  have hoff : m.off i ≤ 16777216 := Nat.le_trans (lenL_take_le _ _) h.wf.len
  have hoff2 : m.off (i + 1) ≤ 16777216 := Nat.le_trans (lenL_take_le _ _) h.wf.len
  have hbase := h.wf.base
  have hfin : m.base + m.off i < m.fin := by unfold LM.fin LM.off; omega
  obtain ⟨r, hr⟩ : ∃ r, m.recs[i] = r := ⟨_, rfl⟩
  obtain ⟨o, ho⟩ : ∃ o, m.off i = o := ⟨_, rfl⟩
  obtain ⟨s, hs⟩ : ∃ s, (bodyR r).length = s := ⟨_, rfl⟩
  have HI := Lib.hid hi
  have HO := Lib.hid ho
  have HR := Lib.hid hr
  rw [hr] at hok hnx hpart ⊢
  rw [ho] at hnx hpart hoff hfin ⊢
  rw [hnx] at hoff2 ⊢
  rw [hs] at hnx hpart hoff2 ⊢
  have HE := Lib.hid hen
  have HM := Lib.hid h
  have HOK := Lib.hid hok
  have HP := Lib.hid hpart
  have HS := Lib.hid hs
  obtain ⟨lsn, hlsn⟩ : ∃ lsn, m.base + o = lsn := ⟨_, rfl⟩
  have hl1 : lsn < 18446744073709551616 := by omega
  have HLS := Lib.hid hlsn
  have q1 : ((lsn : Int) == (m.fin : Int)) = false := by simp; omega
  have u1 : IntKind.u64.wrap ((lsn : Int) - (m.base : Int)) = (o : Int) := by
    rw [show ((lsn : Int) - (m.base : Int)) = (o : Int) by omega]; exact wrap_u64_nat _ (by omega)
  have u2 : IntKind.i64.wrap (o : Int) = (o : Int) := by rw [IntKind.wrap_i64]; omega
  have u3 : IntKind.u64.wrap ((o : Int) + 8 + (s : Int)) = (o : Int) + 8 + (s : Int) := by
    have := wrap_u64_nat (o + 8 + s) (by omega)
    push_cast at this
    exact this
  have u4 : IntKind.u64.wrap ((m.base : Int) + ((o : Int) + 8 + (s : Int))) = (m.base : Int) + ((o : Int) + 8 + (s : Int)) := by
    have := wrap_u64_nat (m.base + (o + 8 + s)) (by omega)
    push_cast at this
    exact this
  have HU := Lib.hid (And.intro u1 (And.intro u2 (And.intro u3 u4)))
  rw [hlsn]
  have o0 : (0 : Int) ≤ (o : Int) := by omega
  have o1 : (o : Int) ≤ 16777216 := by omega
  have HL1 := Lib.hid hl1
  clear h hen hm1 hlt hok hdrop hnx hpart hoff hoff2 hbase hfin hr ho hs hlsn u1 u2 u3 u4 hl1
  go_enter Try.func19, Try.ntmps19
  go_wp2_with fail
  refine HE.out.mono ?_
  rintro e w2 ⟨rfl, k2, hk2⟩
  have hb2 : Below w.heap.size w w2 := by rw [hk2]; exact below_drewN hb1 k2
  have hbx : w2.heap[w.heap.size]? = some (.cells noCs 26 (0, 0)) := by rw [hk2]; exact heap_alloc_new w _
  have hm2 : LMem w2 D L m (.slice ba bn bc) (.slice sa sn sc) := HM.out.keep (fun k hk => hb2.block k (HM.out.lt k hk))
  have hha := l_has_yes w2 D L m _ _ lsn i hm2 HI.out (by rw [HO.out, HLS.out])
  have HHA := Lib.hid hha
  have HBB := Lib.hid (And.intro hb2 (And.intro hbx hm2))
  clear hb1 hb2 hbx hha hk2 hm2
  go_wp2_with fail
  refine HHA.out.mono ?_
  rintro e w3 ⟨rfl, k3, hk3⟩
  have hb3 : Below w.heap.size w w3.drew := by rw [hk3]; exact below_drewN (below_drewN HBB.out.1 k3) 1
  have hbx : w3.drew.heap[w.heap.size]? = some (.cells noCs 26 (0, 0)) := by rw [hk3]; exact HBB.out.2.1
  have hm3 : LMem w3.drew D L m (.slice ba bn bc) (.slice sa sn sc) := by rw [hk3]; exact HBB.out.2.2.keep (fun k hk => rfl)
  have c1 : w3.drew.cell? ⟨L, 1, none⟩ = some (.int .u64 m.base) := hm3.cell 1
  have c2 : w3.drew.cell? ⟨L, 2, none⟩ = some (.slice ba bn bc) := hm3.cell 2
  have hS0 : w3.drew.cell? ⟨L, 1, none⟩ = some (.int .u64 m.base) ∧ w3.drew.cell? ⟨L, 2, none⟩ = some (.slice ba bn bc) := ⟨c1, c2⟩
  have hlen : leNat ((m.bytes.drop o).take 4) = s := by have := HP.out.1; exact this
  have hbd := body_ok' w3.drew _ m.bytes o lsn r HOK.out.good HOK.out.tx HOK.out.prev HOK.out.next (OwnB.rd (F := NoF) hm3.b (fun _ _ => noF _)) HL1.out
    (by rw [hlen]; exact HP.out.2.2.2) (by rw [hlen, ← HS.out]; exact HOK.out.big) (by
      rw [hlen, HP.out.2.1, ← HS.out, HLS.out]
      have h9 := HP.out.2.2.1
      rw [← HS.out] at h9
      rw [h9]
      exact ⟨rfl, rfl⟩)
  rw [hlen] at hbd
  have HBD := Lib.hid hbd
  have HB3 := Lib.hid (And.intro hb3 (And.intro hbx hm3))
  have HK3 := Lib.hid hk3
  have v1 := HU.out.1
  have v2 := HU.out.2.1
  clear hb3 hbx hm3 c1 c2 hlen hbd hk3 HHA
  go_upto_region 5 with (fail)
  refine wp_region_U (fun W => W.cell? ⟨L, 1, none⟩ = some (.int .u64 m.base) ∧ W.cell? ⟨L, 2, none⟩ = some (.slice ba bn bc)) [] (by kernel_rfl) ?_
  refine wpAnyU_take (i := 0) [1, 2, 3, 12, 13, 14, 15, 16, 17, 18, 19] rfl (by as_aux_lemma => kernel_rfl) (by as_aux_lemma => kernel_rfl) (by as_aux_lemma => kernel_rfl) (by as_aux_lemma => kernel_rfl) (by as_aux_lemma => kernel_rfl) (by as_aux_lemma => kernel_rfl) (fun _ _ _ h => h) (Or.inl ⟨by rfl, (by intro W hSW; (try dsimp only at hSW); (try go_split_ands); go_simp <;> with_reducible rfl)⟩) hS0 ?_
  try simp only [Act.put, List.getElem_toArray, List.getElem_cons_succ, List.getElem_cons_zero, List.setIfInBounds_toArray, List.set_cons_zero, List.set_cons_succ]
  refine wpAnyU_take (i := 1) [2, 3, 12, 13, 14, 15, 16, 17, 18, 19] rfl (by as_aux_lemma => kernel_rfl) (by as_aux_lemma => kernel_rfl) (by as_aux_lemma => kernel_rfl) (by as_aux_lemma => kernel_rfl) (by as_aux_lemma => kernel_rfl) (by as_aux_lemma => kernel_rfl) (fun _ _ _ h => h) (Or.inl ⟨by rfl, (by intro W hSW; (try dsimp only at hSW); (try go_split_ands); go_simp <;> with_reducible rfl)⟩) hS0 ?_
  try simp only [Act.put, List.getElem_toArray, List.getElem_cons_succ, List.getElem_cons_zero, List.setIfInBounds_toArray, List.set_cons_zero, List.set_cons_succ]
  refine wpAnyU_take (i := 2) [3, 12, 13, 14, 15, 16, 17, 18, 19] rfl (by as_aux_lemma => kernel_rfl) (by as_aux_lemma => kernel_rfl) (by as_aux_lemma => kernel_rfl) (by as_aux_lemma => kernel_rfl) (by as_aux_lemma => kernel_rfl) (by as_aux_lemma => kernel_rfl) (fun _ _ _ h => h) (Or.inl ⟨by rfl, (by intro W hSW; (try dsimp only at hSW); (try go_split_ands); go_simp <;> with_reducible rfl)⟩) hS0 ?_
  try simp only [Act.put, List.getElem_toArray, List.getElem_cons_succ, List.getElem_cons_zero, List.setIfInBounds_toArray, List.set_cons_zero, List.set_cons_succ]
  refine wpAnyU_take (i := 3) [12, 13, 14, 15, 16, 17, 18, 19] rfl (by as_aux_lemma => kernel_rfl) (by as_aux_lemma => kernel_rfl) (by as_aux_lemma => kernel_rfl) (by as_aux_lemma => kernel_rfl) (by as_aux_lemma => kernel_rfl) (by as_aux_lemma => kernel_rfl) (fun _ _ _ h => h) (Or.inl ⟨by rfl, (by intro W hSW; (try dsimp only at hSW); (try go_split_ands); go_simp <;> with_reducible rfl)⟩) hS0 ?_
  try simp only [Act.put, List.getElem_toArray, List.getElem_cons_succ, List.getElem_cons_zero, List.setIfInBounds_toArray, List.set_cons_zero, List.set_cons_succ]
  refine wpAnyU_take (i := 4) [9, 10, 12, 13, 14, 15, 16, 17, 18, 19] rfl (by as_aux_lemma => kernel_rfl) (by as_aux_lemma => kernel_rfl) (by as_aux_lemma => kernel_rfl) (by as_aux_lemma => kernel_rfl) (by as_aux_lemma => kernel_rfl) (by as_aux_lemma => kernel_rfl) (fun _ _ _ h => h) (Or.inl ⟨by rfl, (by intro W hSW; (try dsimp only at hSW); (try go_split_ands); go_simp <;> with_reducible rfl)⟩) hS0 ?_
  try simp only [Act.put, List.getElem_toArray, List.getElem_cons_succ, List.getElem_cons_zero, List.setIfInBounds_toArray, List.set_cons_zero, List.set_cons_succ]
  refine wpAnyU_take (i := 5) [6, 7, 8, 9, 10, 12, 13, 14, 15, 16, 17, 18, 19] rfl (by as_aux_lemma => kernel_rfl) (by as_aux_lemma => kernel_rfl) (by as_aux_lemma => kernel_rfl) (by as_aux_lemma => kernel_rfl) (by as_aux_lemma => kernel_rfl) (by as_aux_lemma => kernel_rfl) (fun _ _ _ h => h) (Or.inl ⟨by rfl, (by intro W hSW; (try dsimp only at hSW); (try go_split_ands); go_simp <;> with_reducible rfl)⟩) hS0 ?_
  try simp only [Act.put, List.getElem_toArray, List.getElem_cons_succ, List.getElem_cons_zero, List.setIfInBounds_toArray, List.set_cons_zero, List.set_cons_succ]
  refine wpAnyU_take (i := 6) [7, 8, 9, 10, 12, 13, 14, 15, 16, 17, 18, 19] rfl (by as_aux_lemma => kernel_rfl) (by as_aux_lemma => kernel_rfl) (by as_aux_lemma => kernel_rfl) (by as_aux_lemma => kernel_rfl) (by as_aux_lemma => kernel_rfl) (by as_aux_lemma => kernel_rfl) (fun _ _ _ h => h) (Or.inl ⟨by rfl, (by intro W hSW; (try dsimp only at hSW); (try go_split_ands); go_simp <;> with_reducible rfl)⟩) hS0 ?_
  try simp only [Act.put, List.getElem_toArray, List.getElem_cons_succ, List.getElem_cons_zero, List.setIfInBounds_toArray, List.set_cons_zero, List.set_cons_succ]
  refine wpAnyU_take (i := 7) [8, 9, 10, 12, 13, 14, 15, 16, 17, 18, 19] rfl (by as_aux_lemma => kernel_rfl) (by as_aux_lemma => kernel_rfl) (by as_aux_lemma => kernel_rfl) (by as_aux_lemma => kernel_rfl) (by as_aux_lemma => kernel_rfl) (by as_aux_lemma => kernel_rfl) (fun _ _ _ h => h) (Or.inl ⟨by rfl, (by intro W hSW; (try dsimp only at hSW); (try go_split_ands); go_simp <;> with_reducible rfl)⟩) hS0 ?_
  try simp only [Act.put, List.getElem_toArray, List.getElem_cons_succ, List.getElem_cons_zero, List.setIfInBounds_toArray, List.set_cons_zero, List.set_cons_succ]
  refine wpAnyU_take (i := 8) [9, 10, 12, 13, 14, 15, 16, 17, 18, 19] rfl (by as_aux_lemma => kernel_rfl) (by as_aux_lemma => kernel_rfl) (by as_aux_lemma => kernel_rfl) (by as_aux_lemma => kernel_rfl) (by as_aux_lemma => kernel_rfl) (by as_aux_lemma => kernel_rfl) (fun _ _ _ h => h) (Or.inl ⟨by rfl, (by intro W hSW; (try dsimp only at hSW); (try go_split_ands); go_simp <;> with_reducible rfl)⟩) hS0 ?_
  try simp only [Act.put, List.getElem_toArray, List.getElem_cons_succ, List.getElem_cons_zero, List.setIfInBounds_toArray, List.set_cons_zero, List.set_cons_succ]
  refine wpAnyU_take (i := 9) [10, 12, 13, 14, 15, 16, 17, 18, 19] rfl (by as_aux_lemma => kernel_rfl) (by as_aux_lemma => kernel_rfl) (by as_aux_lemma => kernel_rfl) (by as_aux_lemma => kernel_rfl) (by as_aux_lemma => kernel_rfl) (by as_aux_lemma => kernel_rfl) (fun _ _ _ h => h) (Or.inl ⟨by rfl, (by intro W hSW; (try dsimp only at hSW); (try go_split_ands); go_simp <;> with_reducible rfl)⟩) hS0 ?_
  try simp only [Act.put, List.getElem_toArray, List.getElem_cons_succ, List.getElem_cons_zero, List.setIfInBounds_toArray, List.set_cons_zero, List.set_cons_succ]
  refine wpAnyU_take (i := 10) [12, 13, 14, 15, 16, 17, 18, 19] rfl (by as_aux_lemma => kernel_rfl) (by as_aux_lemma => kernel_rfl) (by as_aux_lemma => kernel_rfl) (by as_aux_lemma => kernel_rfl) (by as_aux_lemma => kernel_rfl) (by as_aux_lemma => kernel_rfl) (fun _ _ _ h => h) (Or.inl ⟨by rfl, (by intro W hSW; (try dsimp only at hSW); (try go_split_ands); go_simp <;> with_reducible rfl)⟩) hS0 ?_
  try simp only [Act.put, List.getElem_toArray, List.getElem_cons_succ, List.getElem_cons_zero, List.setIfInBounds_toArray, List.set_cons_zero, List.set_cons_succ]
  refine wpAnyU_take (i := 11) [12, 13, 14, 15, 16, 17, 18, 19] rfl (by as_aux_lemma => kernel_rfl) (by as_aux_lemma => kernel_rfl) (by as_aux_lemma => kernel_rfl) (by as_aux_lemma => kernel_rfl) (by as_aux_lemma => kernel_rfl) (by as_aux_lemma => kernel_rfl) (fun _ _ _ h => h) (Or.inl ⟨by rfl, (by intro W hSW; (try dsimp only at hSW); (try go_split_ands); go_simp <;> with_reducible rfl)⟩) hS0 ?_
  try simp only [Act.put, List.getElem_toArray, List.getElem_cons_succ, List.getElem_cons_zero, List.setIfInBounds_toArray, List.set_cons_zero, List.set_cons_succ]
  refine wpAnyU_one (i := 12) (by kernel_rfl) rfl (fun K hK => ?_)
  go_simp
  go_at_call 11
  (with_reducible refine HBD.out.mono ?_)
  rintro e w4 ⟨x2, rfl, hrec, hb4⟩
  obtain ⟨da, dn, dc, ca, cn, cc, e1, e2, -⟩ := hrec.open
  unfold rval
  rw [e1, e2]
  have hbw4 := HB3.out.1.trans (hb4.mono HB3.out.1.size)
  have hz3 : w.heap.size < w3.drew.heap.size := lt_of_block HB3.out.2.1
  have k4 : w4.heap[w.heap.size]? = some (.cells noCs 26 (0, 0)) := (hb4.block _ hz3).trans HB3.out.2.1
  have hm4 : LMem w4 D L m (.slice ba bn bc) (.slice sa sn sc) := HB3.out.2.2.keep (fun k hk => hb4.block k (HB3.out.2.2.lt k hk))
  have hS4 : w4.cell? ⟨L, 1, none⟩ = some (.int .u64 m.base) ∧ w4.cell? ⟨L, 2, none⟩ = some (.slice ba bn bc) := ⟨hm4.cell 1, hm4.cell 2⟩
  obtain ⟨w5, hw5⟩ : ∃ w5, w4.setRow w.heap.size (rcs r (.slice da dn dc) (.slice ca cn cc)) = w5 := ⟨_, rfl⟩
  have k5 : w5.heap[w.heap.size]? = some (.cells (rcs r (.slice da dn dc) (.slice ca cn cc)) 26 (0, 0)) := by rw [← hw5]; exact setRow_blk k4
  have hm5 : LMem w5 D L m (.slice ba bn bc) (.slice sa sn sc) := hm4.keep (fun k hk => by rw [← hw5]; exact setRow_other (fun e => by have := HM.out.lt k hk; omega))
  have hS5 : w5.cell? ⟨L, 1, none⟩ = some (.int .u64 m.base) ∧ w5.cell? ⟨L, 2, none⟩ = some (.slice ba bn bc) := ⟨hm5.cell 1, hm5.cell 2⟩
  have h1c : (rcs r (.slice da dn dc) (.slice ca cn cc)).all (·.oneCell') = true := by simp [rcs, Value.oneCell']
  have hs5 : w5.heap.size = w4.heap.size := by rw [← hw5]; simp [World.setRow]
  have hrec5 : RecAt (OldF w.heap.size) w5 r x2 := hrec.keep (fun k hk hn => by rw [← hw5]; exact setRow_other (fun e => hn (by unfold OldF; omega))) (fun k hk h => by unfold OldF at *; have h9 := HB3.out.1.size; omega)
  have hb5 : Below w.heap.size w w5 := ⟨by rw [← hw5]; exact hbw4.os, by rw [← hw5]; exact hbw4.tape, by rw [← hw5]; exact hbw4.output, by rw [hs5]; exact hbw4.size, fun k hk => by rw [← hw5, setRow_other (by omega)]; exact hbw4.block k hk⟩
  have HK4 := Lib.hid k4
  have H1C := Lib.hid h1c
  have HW5 := Lib.hid hw5
  have HK5 := Lib.hid k5
  have HX5 := Lib.hid (And.intro hrec5 (And.intro hb5 hm5))
  have HXE := Lib.hid (And.intro e1 e2)
  clear hrec hb4 e1 e2 hbw4 hz3 k4 hm4 hw5 k5 hm5 h1c hs5 hrec5 hb5 HBD
  refine hK.out _ _ (fun _ => hS4) (fun _ => ?_)
  clear hK K
  try simp only [Act.put, List.getElem_toArray, List.getElem_cons_succ, List.getElem_cons_zero, List.setIfInBounds_toArray, List.set_cons_zero, List.set_cons_succ]
  refine wpAnyU_take (i := 13) [14, 15, 16, 17, 18, 19] rfl (by as_aux_lemma => kernel_rfl) (by as_aux_lemma => kernel_rfl) (by as_aux_lemma => kernel_rfl) (by as_aux_lemma => kernel_rfl) (by as_aux_lemma => kernel_rfl) (by as_aux_lemma => kernel_rfl) (fun _ _ _ h => h) (Or.inl ⟨by rfl, (by intro W hSW; (try dsimp only at hSW); (try go_split_ands); go_simp <;> with_reducible rfl)⟩) hS4 ?_
  try simp only [Act.put, List.getElem_toArray, List.getElem_cons_succ, List.getElem_cons_zero, List.setIfInBounds_toArray, List.set_cons_zero, List.set_cons_succ]
  refine wpAnyU_take (i := 14) [17, 18, 19] rfl (by as_aux_lemma => kernel_rfl) (by as_aux_lemma => kernel_rfl) (by as_aux_lemma => kernel_rfl) (by as_aux_lemma => kernel_rfl) (by as_aux_lemma => kernel_rfl) (by as_aux_lemma => kernel_rfl) (fun _ _ _ h => h) (Or.inl ⟨by rfl, (by intro W hSW; (try dsimp only at hSW); (try go_split_ands); go_simp <;> with_reducible rfl)⟩) hS4 ?_
  try simp only [Act.put, List.getElem_toArray, List.getElem_cons_succ, List.getElem_cons_zero, List.setIfInBounds_toArray, List.set_cons_zero, List.set_cons_succ]
  refine wpAnyU_take (i := 15) [18, 19] rfl (by as_aux_lemma => kernel_rfl) (by as_aux_lemma => kernel_rfl) (by as_aux_lemma => kernel_rfl) (by as_aux_lemma => kernel_rfl) (by as_aux_lemma => kernel_rfl) (by as_aux_lemma => kernel_rfl) (fun _ _ _ h => h) (Or.inl ⟨by rfl, (by intro W hSW; (try dsimp only at hSW); (try go_split_ands); go_simp <;> with_reducible rfl)⟩) hS4 ?_
  try simp only [Act.put, List.getElem_toArray, List.getElem_cons_succ, List.getElem_cons_zero, List.setIfInBounds_toArray, List.set_cons_zero, List.set_cons_succ]
  refine wpAnyU_take (i := 16) [19] rfl (by as_aux_lemma => kernel_rfl) (by as_aux_lemma => kernel_rfl) (by as_aux_lemma => kernel_rfl) (by as_aux_lemma => kernel_rfl) (by as_aux_lemma => kernel_rfl) (by as_aux_lemma => kernel_rfl) (fun _ _ _ h => h) (Or.inl ⟨by rfl, (by intro W hSW; (try dsimp only at hSW); (try go_split_ands); go_simp <;> with_reducible rfl)⟩) hS4 ?_
  try simp only [Act.put, List.getElem_toArray, List.getElem_cons_succ, List.getElem_cons_zero, List.setIfInBounds_toArray, List.set_cons_zero, List.set_cons_succ]
  refine wpAnyU_one (i := 17) (by kernel_rfl) rfl (fun K hK => ?_)
  refine step_store_is rfl _ _ _ rfl w.heap.size (rcs r (.slice da dn dc) (.slice ca cn cc)) rfl rfl _ _ HK4.out infoR rfl H1C.out ?_
  rw [HW5.out]
  refine hK.out _ _ (fun _ => hS5) (fun _ => ?_)
  clear hK K
  try simp only [Act.put, List.getElem_toArray, List.getElem_cons_succ, List.getElem_cons_zero, List.setIfInBounds_toArray, List.set_cons_zero, List.set_cons_succ]
  refine wpAnyU_take (i := 18) [19] rfl (by as_aux_lemma => kernel_rfl) (by as_aux_lemma => kernel_rfl) (by as_aux_lemma => kernel_rfl) (by as_aux_lemma => kernel_rfl) (by as_aux_lemma => kernel_rfl) (by as_aux_lemma => kernel_rfl) (fun _ _ _ h => h) (Or.inl ⟨by rfl, (by intro W hSW; (try dsimp only at hSW); (try go_split_ands); go_simp <;> with_reducible rfl)⟩) hS5 ?_
  try simp only [Act.put, List.getElem_toArray, List.getElem_cons_succ, List.getElem_cons_zero, List.setIfInBounds_toArray, List.set_cons_zero, List.set_cons_succ]
  refine wpAnyU_take (i := 19) [] rfl (by as_aux_lemma => kernel_rfl) (by as_aux_lemma => kernel_rfl) (by as_aux_lemma => kernel_rfl) (by as_aux_lemma => kernel_rfl) (by as_aux_lemma => kernel_rfl) (by as_aux_lemma => kernel_rfl) (fun _ _ _ h => h) (Or.inl ⟨by rfl, (by intro W hSW; (try dsimp only at hSW); (try go_split_ands); go_simp <;> with_reducible rfl)⟩) hS5 ?_
  try simp only [Act.put, List.getElem_toArray, List.getElem_cons_succ, List.getElem_cons_zero, List.setIfInBounds_toArray, List.set_cons_zero, List.set_cons_succ]
  refine wpAnyU_done (by kernel_rfl) ?_ _
  have hT0 : w5.drew.cell? ⟨L, 1, none⟩ = some (.int .u64 m.base) ∧ w5.drew.heap[w.heap.size]? = some (.cells (rcs r (.slice da dn dc) (.slice ca cn cc)) 26 (0, 0)) := ⟨hS5.1, HK5.out⟩
  have v3 := HU.out.2.2.1
  have v4 := HU.out.2.2.2
  clear hS0 hS4 hS5 v1 v2
  go_upto_region 8 with (fail)
  refine wp_region_U (fun W => W.cell? ⟨L, 1, none⟩ = some (.int .u64 m.base) ∧ W.heap[w.heap.size]? = some (.cells (rcs r (.slice da dn dc) (.slice ca cn cc)) 26 (0, 0))) [] (by kernel_rfl) ?_
  refine wpAnyU_take (i := 0) [8, 9, 10] rfl (by as_aux_lemma => kernel_rfl) (by as_aux_lemma => kernel_rfl) (by as_aux_lemma => kernel_rfl) (by as_aux_lemma => kernel_rfl) (by as_aux_lemma => kernel_rfl) (by as_aux_lemma => kernel_rfl) (fun _ _ _ h => h) (yields_load_row (by rfl) _ _ rfl w.heap.size rfl _ _ (0, 0) _ (fun W hS => hS.2) Try.underlying26 rfl infoR) hT0 ?_
  try simp only [Act.put, List.getElem_toArray, List.getElem_cons_succ, List.getElem_cons_zero, List.setIfInBounds_toArray, List.set_cons_zero, List.set_cons_succ]
  refine wpAnyU_take (i := 1) [2, 3, 4, 7, 9, 10] rfl (by as_aux_lemma => kernel_rfl) (by as_aux_lemma => kernel_rfl) (by as_aux_lemma => kernel_rfl) (by as_aux_lemma => kernel_rfl) (by as_aux_lemma => kernel_rfl) (by as_aux_lemma => kernel_rfl) (fun _ _ _ h => h) (Or.inl ⟨by rfl, (by intro W hSW; (try dsimp only at hSW); (try go_split_ands); go_simp <;> with_reducible rfl)⟩) hT0 ?_
  try simp only [Act.put, List.getElem_toArray, List.getElem_cons_succ, List.getElem_cons_zero, List.setIfInBounds_toArray, List.set_cons_zero, List.set_cons_succ]
  refine wpAnyU_take (i := 2) [3, 4, 7, 9, 10] rfl (by as_aux_lemma => kernel_rfl) (by as_aux_lemma => kernel_rfl) (by as_aux_lemma => kernel_rfl) (by as_aux_lemma => kernel_rfl) (by as_aux_lemma => kernel_rfl) (by as_aux_lemma => kernel_rfl) (fun _ _ _ h => h) (Or.inl ⟨by rfl, (by intro W hSW; (try dsimp only at hSW); (try go_split_ands); go_simp <;> with_reducible rfl)⟩) hT0 ?_
  try simp only [Act.put, List.getElem_toArray, List.getElem_cons_succ, List.getElem_cons_zero, List.setIfInBounds_toArray, List.set_cons_zero, List.set_cons_succ]
  refine wpAnyU_take (i := 3) [4, 7, 9, 10] rfl (by as_aux_lemma => kernel_rfl) (by as_aux_lemma => kernel_rfl) (by as_aux_lemma => kernel_rfl) (by as_aux_lemma => kernel_rfl) (by as_aux_lemma => kernel_rfl) (by as_aux_lemma => kernel_rfl) (fun _ _ _ h => h) (Or.inl ⟨by rfl, (by intro W hSW; (try dsimp only at hSW); (try go_split_ands); go_simp <;> with_reducible rfl)⟩) hT0 ?_
  try simp only [Act.put, List.getElem_toArray, List.getElem_cons_succ, List.getElem_cons_zero, List.setIfInBounds_toArray, List.set_cons_zero, List.set_cons_succ]
  refine wpAnyU_take (i := 4) [7, 9, 10] rfl (by as_aux_lemma => kernel_rfl) (by as_aux_lemma => kernel_rfl) (by as_aux_lemma => kernel_rfl) (by as_aux_lemma => kernel_rfl) (by as_aux_lemma => kernel_rfl) (by as_aux_lemma => kernel_rfl) (fun _ _ _ h => h) (Or.inl ⟨by rfl, (by intro W hSW; (try dsimp only at hSW); (try go_split_ands); go_simp <;> with_reducible rfl)⟩) hT0 ?_
  try simp only [Act.put, List.getElem_toArray, List.getElem_cons_succ, List.getElem_cons_zero, List.setIfInBounds_toArray, List.set_cons_zero, List.set_cons_succ]
  refine wpAnyU_take (i := 5) [6, 7, 9, 10] rfl (by as_aux_lemma => kernel_rfl) (by as_aux_lemma => kernel_rfl) (by as_aux_lemma => kernel_rfl) (by as_aux_lemma => kernel_rfl) (by as_aux_lemma => kernel_rfl) (by as_aux_lemma => kernel_rfl) (fun _ _ _ h => h) (Or.inl ⟨by rfl, (by intro W hSW; (try dsimp only at hSW); (try go_split_ands); go_simp <;> with_reducible rfl)⟩) hT0 ?_
  try simp only [Act.put, List.getElem_toArray, List.getElem_cons_succ, List.getElem_cons_zero, List.setIfInBounds_toArray, List.set_cons_zero, List.set_cons_succ]
  refine wpAnyU_take (i := 6) [7, 9, 10] rfl (by as_aux_lemma => kernel_rfl) (by as_aux_lemma => kernel_rfl) (by as_aux_lemma => kernel_rfl) (by as_aux_lemma => kernel_rfl) (by as_aux_lemma => kernel_rfl) (by as_aux_lemma => kernel_rfl) (fun _ _ _ h => h) (Or.inl ⟨by rfl, (by intro W hSW; (try dsimp only at hSW); (try go_split_ands); go_simp <;> with_reducible rfl)⟩) hT0 ?_
  try simp only [Act.put, List.getElem_toArray, List.getElem_cons_succ, List.getElem_cons_zero, List.setIfInBounds_toArray, List.set_cons_zero, List.set_cons_succ]
  refine wpAnyU_take (i := 7) [9, 10] rfl (by as_aux_lemma => kernel_rfl) (by as_aux_lemma => kernel_rfl) (by as_aux_lemma => kernel_rfl) (by as_aux_lemma => kernel_rfl) (by as_aux_lemma => kernel_rfl) (by as_aux_lemma => kernel_rfl) (fun _ _ _ h => h) (Or.inl ⟨by rfl, (by intro W hSW; (try dsimp only at hSW); (try go_split_ands); go_simp <;> with_reducible rfl)⟩) hT0 ?_
  try simp only [Act.put, List.getElem_toArray, List.getElem_cons_succ, List.getElem_cons_zero, List.setIfInBounds_toArray, List.set_cons_zero, List.set_cons_succ]
  refine wpAnyU_one (i := 8) (by kernel_rfl) rfl (fun K hK => ?_)
  refine step_store_is rfl _ _ _ rfl w.heap.size (rcs r (.slice da dn dc) (.slice ca cn cc)) rfl rfl _ _ hT0.2 infoR rfl H1C.out ?_
  rw [setRow_self _ _ _ _ _ hT0.2]
  refine hK.out _ _ (fun _ => hT0) (fun _ => ?_)
  clear hK K
  try simp only [Act.put, List.getElem_toArray, List.getElem_cons_succ, List.getElem_cons_zero, List.setIfInBounds_toArray, List.set_cons_zero, List.set_cons_succ]
  refine wpAnyU_take (i := 9) [10] rfl (by as_aux_lemma => kernel_rfl) (by as_aux_lemma => kernel_rfl) (by as_aux_lemma => kernel_rfl) (by as_aux_lemma => kernel_rfl) (by as_aux_lemma => kernel_rfl) (by as_aux_lemma => kernel_rfl) (fun _ _ _ h => h) (Or.inl ⟨by rfl, (by intro W hSW; (try dsimp only at hSW); (try go_split_ands); go_simp <;> with_reducible rfl)⟩) hT0 ?_
  try simp only [Act.put, List.getElem_toArray, List.getElem_cons_succ, List.getElem_cons_zero, List.setIfInBounds_toArray, List.set_cons_zero, List.set_cons_succ]
  refine wpAnyU_take (i := 10) [] rfl (by as_aux_lemma => kernel_rfl) (by as_aux_lemma => kernel_rfl) (by as_aux_lemma => kernel_rfl) (by as_aux_lemma => kernel_rfl) (by as_aux_lemma => kernel_rfl) (by as_aux_lemma => kernel_rfl) (fun _ _ _ h => h) (Or.inl ⟨by rfl, (by intro W hSW; (try dsimp only at hSW); (try go_split_ands); go_simp <;> with_reducible rfl)⟩) hT0 ?_
  try simp only [Act.put, List.getElem_toArray, List.getElem_cons_succ, List.getElem_cons_zero, List.setIfInBounds_toArray, List.set_cons_zero, List.set_cons_succ]
  refine wpAnyU_done (by kernel_rfl) ?_ _
  obtain ⟨q0, q2, q3, q4, q5, q6⟩ := box6 (w := w) HK5.out
  clear hT0 v3 v4
  go_wp2
  refine bodyPost_ret (by simp [results, Try.results19, go_sem, q0, q2, q3, q4, q5, q6]; try rfl) rfl ?_
  exact ⟨x2, by unfold rval; rw [HXE.out.1, HXE.out.2]; push_cast; rfl, HX5.out.1.drewN 1, below_drewN HX5.out.2.1 1⟩
end
end Mun
end

section
/- What Body finds in a log's bytes: a record, or a torn one. -/
set_option maxRecDepth 100000
set_option linter.unusedVariables false
set_option linter.unusedSimpArgs false
namespace Mun
open Go Go.RowKit
open Go.Proofs

theorem own_take {w : World} {B g n cap : Nat} {e : TypeId} {l : List UInt8} (h : OwnB w B e (.slice (some ⟨g, 0, none⟩) n cap) l) (k : Nat) (hk : k ≤ l.length) : OwnB w B e (.slice (some ⟨g, 0, none⟩) k cap) (l.take k) := by
  rcases h with ⟨h0, (⟨h1, _⟩ | ⟨g', cap', cur, e1, hb, hg, h1, h2, h3, h4⟩)⟩
  · cases h1
  · injection e1 with e1 e2 e3
    injection e1 with e1
    injection e1 with e1
    subst e1 e3
    have hl : (l.take k).length = k := by rw [List.length_take]; omega
    refine ⟨by rw [hl, bv_length, hl]; omega, .inr ⟨g, cap, cur, by rw [hl], hb, hg, by omega, h2, h3, ?_⟩⟩
    rw [hl]
    have e9 : bv (l.take k) = (bv l).take k := by simp [bv, List.map_take]
    rw [e9, ← h4, List.take_take]
    congr 1
    omega

theorem body_at {F : Foot} (w : World) (v : Value) (l : List UInt8) (b : Nat) (rs : List PR) (tail : Bytes) (i : Nat) (hv : RdB F w v l) (hl : l = encL b rs ++ tail) (hi : i < rs.length) (hok : RecOk rs[i]) (hb : b < 4611686018427387904) (hlen : lenL rs ≤ 16777216) :
    Calls Try.prog 11 #[v, .int .i64 (lenL (rs.take i) : Nat), .int .u64 (b + lenL (rs.take i) : Nat)] w (BodyYes w rs[i] ((lenL (rs.take (i + 1)) : Nat) : Int)) := by
  have h1 := encL_drop rs b i hi
  have hle := lenL_take_le rs i
  have hd : l.drop (lenL (rs.take i)) = recB rs[i] (b + lenL (rs.take i)) ++ (encL (b + lenL (rs.take (i + 1))) (rs.drop (i + 1)) ++ tail) := by
    rw [hl, List.drop_append_of_le_length (by rw [encL_length]; exact hle), h1, List.append_assoc]
  obtain ⟨p1, p2, p3, p4⟩ := rec_parts l _ _ _ _ hd hok.big
  have hs := lenL_take_succ rs i hi
  have h9 := body_ok' w v l (lenL (rs.take i)) (b + lenL (rs.take i)) rs[i] hok.good hok.tx hok.prev hok.next hv (by omega) (by rw [p1]; exact p4) (by rw [p1]; exact hok.big) (by rw [p1, p2, p3]; exact ⟨rfl, rfl⟩)
  rw [p1] at h9
  have e : ((lenL (rs.take i) : Nat) : Int) + 8 + (((bodyR rs[i]).length : Nat) : Int) = ((lenL (rs.take (i + 1)) : Nat) : Int) := by rw [hs]; unfold recLen; omega
  rw [e] at h9
  exact h9

theorem body_torn {F : Foot} (w : World) (v : Value) (l : List UInt8) (A : Nat) (r : PR) (lsn k : Nat) (pre : Bytes) (hv : RdB F w v l) (hl : l = pre ++ (recB r lsn).take k) (hA : A = pre.length) (hk : k < recLen r) (hbig : (bodyR r).length ≤ 1048576) (lsn' : Nat) :
    Calls Try.prog 11 #[v, .int .i64 A, .int .u64 lsn'] w (BodyNo w 4) := by
  subst hA
  have hlen : l.length = pre.length + k := by rw [hl, List.length_append, List.length_take, recB_len, Nat.min_eq_left (Nat.le_of_lt hk)]
  by_cases h8 : k < 8
  · exact body_short w v l pre.length lsn' hv (by omega) (by omega)
  · refine body_size w v l pre.length lsn' hv (by omega) (.inr ?_)
    have e : (l.drop pre.length).take 4 = (recB r lsn).take 4 := by
      rw [hl, List.drop_left, List.take_take]
      congr 1
      omega
    have e2 := (rec_parts (recB r lsn) 0 r lsn [] (by simp) hbig).1
    rw [List.drop_zero] at e2
    rw [e, e2]
    unfold recLen at hk
    omega
end Mun
end

section
/- Contracts of a log: Force; Open on a new device; fresh. -/
set_option maxRecDepth 100000
set_option linter.unusedVariables false
set_option linter.unusedSimpArgs false
namespace Mun
open Go Go.RowKit
open Go.Proofs

def LM.new : LM := ⟨1, [], 0, 0⟩
theorem LM.new_wf : LM.new.Wf := ⟨by simp [LM.new], by simp [LM.new, lenL], by simp [LM.new], by simp [LM.new, lenL], by simp [LM.new]⟩

def OpenOut (w : World) (D : Nat) (E F : Foot) (dm : DM) (e : Ending) (w' : World) : Prop :=
  ∃ L bv sv, e = .returned (.tuple #[.pointer (some ⟨L, 0, none⟩), .int .i64 0]) ∧ LogAt w' D L E F dm LM.new bv sv ∧ Below w.heap.size w w' ∧ ∀ k, lfoot L bv sv k → w.heap.size ≤ k

set_option maxHeartbeats 1000000 in
theorem open_new (w : World) (D : Nat) (E F : Foot) (dm : DM) (h : DiskAt w D E F dm) (hd : dm.dead = false) (hl : dm.log = []) (hm : dm.mark = []) (hc : dm.certain = 0) :
    Calls Try.prog 22 #[.pointer (some ⟨D, 0, none⟩)] w (OpenOut w D E F dm) := by
  have hmk := d_marked w D F dm h hd
  rw [hm] at hmk
  simp only [List.length_nil] at hmk
  obtain ⟨w1, hw1⟩ : ∃ w1, w.alloc (bobj []) = w1 := ⟨_, rfl⟩
  obtain ⟨w2, hw2⟩ : ∃ w2, w1.alloc (.cells #[.pointer (some ⟨D, 0, none⟩), .int .u64 1, .slice none 0 0, .slice none 0 0, .int .i64 0, .int .u64 0] 86) = w2 := ⟨_, rfl⟩
  have hb1 : Below w.heap.size w w1 := by rw [← hw1]; exact (Below.refl _ _).alloc (Nat.le_refl _) _
  have hb2 : Below w.heap.size w w2 := by rw [← hw2]; exact hb1.alloc hb1.size _
  have hlg := d_log w2 D F dm (h.below hb2) hd
  rw [hl] at hlg
  simp only [List.length_nil] at hlg
  obtain ⟨w3, hw3⟩ : ∃ w3, w2.alloc (bobj []) = w3 := ⟨_, rfl⟩
  have hb3 : Below w.heap.size w w3 := by rw [← hw3]; exact hb2.alloc hb2.size _
  rw [hw1] at hmk
  rw [hw3] at hlg
  have hs1 : w1.heap.size = w.heap.size + 1 := by rw [← hw1]; simp
  have hs2 : w2.heap.size = w.heap.size + 2 := by rw [← hw2]; simp [hs1]
  have hs3 : w3.heap.size = w.heap.size + 3 := by rw [← hw3]; simp [hs2]
  have k3 : w3.heap[w1.heap.size]? = some (.cells #[.pointer (some ⟨D, 0, none⟩), .int .u64 1, .slice none 0 0, .slice none 0 0, .int .i64 0, .int .u64 0] 86 (0, 0)) := by
    rw [← hw3, heap_alloc_old _ _ (by omega), ← hw2]; exact heap_alloc_new w1 _
  have o3 : OwnB w3 w.heap.size 5 (.slice (some ⟨w2.heap.size, 0, none⟩) 0 0) [] := by
    rw [← hw3]
    exact bobj_own w2 [] 0 _ rfl (Nat.zero_le _) hb2.size
  have c2 : w3.cell? ⟨w1.heap.size, 2, none⟩ = some (.slice none 0 0) := cell_of_row _ _ 2 _ _ _ k3
  have f2 : w3.frozen? ⟨w1.heap.size, 2, none⟩ = false := by simp [World.frozen?, k3]
  obtain ⟨w4, hw4⟩ : ∃ w4, w3.setCell ⟨w1.heap.size, 2, none⟩ (.slice (some ⟨w2.heap.size, 0, none⟩) 0 0) = w4 := ⟨_, rfl⟩
  have k4 : w4.heap[w1.heap.size]? = some (.cells #[.pointer (some ⟨D, 0, none⟩), .int .u64 1, .slice (some ⟨w2.heap.size, 0, none⟩) 0 0, .slice none 0 0, .int .i64 0, .int .u64 0] 86 (0, 0)) := by rw [← hw4]; exact block_setCell k3 _
  have o4 : OwnB w4 w.heap.size 5 (.slice (some ⟨w2.heap.size, 0, none⟩) 0 0) [] := ownB_same o3 (fun k e => by
    simp only [Value.ownBlock, Option.some.injEq] at e
    subst e
    rw [← hw4]
    exact block_setCell_ne _ (by omega))
  have hb4 : Below w.heap.size w w4 := by rw [← hw4]; exact hb3.setCell (by simp; omega) _
  have hcr : ∀ k, Calls Try.prog 48 #[.pointer (some ⟨D, 0, none⟩)] (w4.drewN k) fun e w' => e = .returned (.int .i64 0) ∧ w4.drewN k = w' := fun k => by
    have h9 := d_certain (w4.drewN k) D F dm ((h.below hb4).drewN k)
    rw [hc] at h9
    exact h9
  have d2 : w4.cell? ⟨w1.heap.size, 2, none⟩ = some (.slice (some ⟨w2.heap.size, 0, none⟩) 0 0) := cell_of_row _ _ 2 _ _ _ k4
  have d4 : w4.cell? ⟨w1.heap.size, 4, none⟩ = some (.int .i64 0) := cell_of_row _ _ 4 _ _ _ k4
  have f4 : w4.frozen? ⟨w1.heap.size, 4, none⟩ = false := by simp [World.frozen?, k4]
  have HMK := Lib.hid hmk
  have HLG := Lib.hid hlg
  have HCR := Lib.hid hcr
  have HX := Lib.hid (And.intro h (And.intro hb4 (And.intro k4 (And.intro o4 hs1))))
  clear hmk hlg hcr h hb1 hb2 hb3 hs2 hs3 k3 o3 k4 o4 hb4 hd hl hm hc hs1
  go_enter Try.func22, Try.ntmps22
  go_wp2_with fail
  refine HMK.out.mono ?_
  rintro e w9 ⟨rfl, rfl⟩
  go_wp2_with fail
  refine HLG.out.mono ?_
  rintro e w9 ⟨rfl, rfl⟩
  go_wp2
  clear hw1 hw2 hw3 hw4 c2 f2
  go_loopw [7] (fun a wr => a = .int .i64 0 ∧ wr = w4) (fun _ _ => 0)
  case atStart => exact ⟨rfl, rfl⟩
  case round =>
    obtain ⟨rfl, rfl⟩ := hrel
    go_upto_region 23 with (fail)
    go_quiet ((go_at_call 48; exact quiet_eq (HCR.out _)))
    have hb5 : Below w.heap.size w (wr.drewN nq) := below_drewN HX.out.2.1 nq
    have k5 : (wr.drewN nq).heap[w1.heap.size]? = some (.cells #[.pointer (some ⟨D, 0, none⟩), .int .u64 1, .slice (some ⟨w2.heap.size, 0, none⟩) 0 0, .slice none 0 0, .int .i64 0, .int .u64 0] 86 (0, 0)) := HX.out.2.2.1
    have o5 : OwnB (wr.drewN nq) w.heap.size 5 (.slice (some ⟨w2.heap.size, 0, none⟩) 0 0) [] := HX.out.2.2.2.1
    obtain ⟨w5, hw5⟩ : ∃ w5, wr.drewN nq = w5 := ⟨_, rfl⟩
    rw [hw5] at hb5 k5 o5 ⊢
    have e2 : w5.cell? ⟨w1.heap.size, 2, none⟩ = some (.slice (some ⟨w2.heap.size, 0, none⟩) 0 0) := cell_of_row _ _ 2 _ _ _ k5
    have e4 : w5.cell? ⟨w1.heap.size, 4, none⟩ = some (.int .i64 0) := cell_of_row _ _ 4 _ _ _ k5
    have g4 : w5.frozen? ⟨w1.heap.size, 4, none⟩ = false := by simp [World.frozen?, k5]
    obtain ⟨w6, hw6⟩ : ∃ w6, w5.setCell ⟨w1.heap.size, 4, none⟩ (.int .i64 0) = w6 := ⟨_, rfl⟩
    have hs1 := HX.out.2.2.2.2
    have k6 : w6.heap[w1.heap.size]? = some (.cells (lcells D LM.new (.slice (some ⟨w2.heap.size, 0, none⟩) 0 0) (.slice none 0 0)) 86 (0, 0)) := by rw [← hw6]; exact block_setCell k5 _
    have hne : w2.heap.size ≠ w1.heap.size := fun e => by
      obtain ⟨cu, hcu⟩ := ownsRow_blk o5 (k := w2.heap.size) rfl
      rw [e] at hcu
      exact blk_ne k5 hcu (by decide) rfl
    have o6 : OwnB w6 w.heap.size 5 (.slice (some ⟨w2.heap.size, 0, none⟩) 0 0) [] := ownB_same o5 (fun k e => by
      simp only [Value.ownBlock, Option.some.injEq] at e
      subst e
      rw [← hw6]
      exact block_setCell_ne _ hne)
    have hb6 : Below w.heap.size w w6 := by rw [← hw6]; exact hb5.setCell (by simp; omega) _
    have hm6 : LMem w6 D w1.heap.size LM.new (.slice (some ⟨w2.heap.size, 0, none⟩) 0 0) (.slice none 0 0) :=
      ⟨k6, ownsRow_base o6 (fun _ _ => Nat.zero_le _), World.ownsRow_nil _ _ _ _, LM.new_wf⟩
    have hown : ∀ k, lfoot w1.heap.size (.slice (some ⟨w2.heap.size, 0, none⟩) 0 0) (.slice none 0 0) k → w.heap.size ≤ k := fun k hk => by
      rcases hk with h1 | h1 | h1
      · omega
      · simp only [Value.ownBlock, Option.some.injEq] at h1; subst h1; exact (o6.lt _ rfl).1
      · simp [Value.ownBlock] at h1
    have hd6 : DiskAt w6 D (uf (lfoot w1.heap.size (.slice (some ⟨w2.heap.size, 0, none⟩) 0 0) (.slice none 0 0)) E) F dm := HX.out.1.grow hb6 (fun k hk => hk.elim (fun hk => .inr ⟨hown k hk, hm6.lt k hk⟩) .inl)
    have HF := Lib.hid (And.intro hd6 (And.intro hm6 (And.intro hb6 hown)))
    clear hb5 k5 o5 hs1 k6 hne o6 hb6 hm6 hown hd6 hw5 d2 d4 f4
    go_wp2
    go_ret2
    exact ⟨_, _, _, rfl, ⟨HF.out.1, HF.out.2.1⟩, HF.out.2.2.1, HF.out.2.2.2⟩

def FreshOut (w : World) (room : Nat) (e : Ending) (w' : World) : Prop :=
  ∃ D L F bv sv, e = .returned (.tuple #[.pointer (some ⟨D, 0, none⟩), .pointer (some ⟨L, 0, none⟩)]) ∧ LogAt w' D L NoF F (DM.new 1 room) LM.new bv sv ∧ Below w.heap.size w w' ∧ (∀ k, F k → w.heap.size ≤ k) ∧ ∀ k, lfoot L bv sv k → w.heap.size ≤ k

theorem fresh_any (w : World) (room : Nat) (h : room ≤ 16777216) : Calls Try.prog 13 #[.int .i64 room] w (FreshOut w room) := by
  have hnw := d_new w 1 room (by omega) (by omega) h
  have hdk := new_disk w 1 room (E := NoF) (fun k hk => absurd hk (noF k)) (by omega) h
  obtain ⟨w1, hw1⟩ : ∃ w1, newWorld w 1 room = w1 := ⟨_, rfl⟩
  have hb1 : Below w.heap.size w w1 := by rw [← hw1]; unfold newWorld; exact below_more (below_more (below_more (Below.refl _ _) _) _) _
  rw [hw1] at hnw hdk
  have hop := open_new w1 _ _ _ _ hdk rfl rfl rfl rfl
  have HNW := Lib.hid hnw
  have HOP := Lib.hid hop
  have HB1 := Lib.hid hb1
  clear hnw hdk hop hb1 hw1 h
  go_enter Try.func13, Try.ntmps13
  go_wp2_with fail
  refine HNW.out.mono ?_
  rintro e w2 ⟨rfl, rfl⟩
  go_wp2_with fail
  refine HOP.out.mono ?_
  rintro e w3 ⟨L, bv, sv, rfl, hlog, hb3, hown⟩
  have HF := Lib.hid (And.intro hlog (And.intro (HB1.out.trans (hb3.mono HB1.out.size)) hown))
  clear hlog hb3 hown
  go_wp2
  go_ret2
  exact ⟨_, L, _, bv, sv, rfl, HF.out.1, HF.out.2.1, fun k hk => by unfold newFoot at hk; omega, fun k hk => Nat.le_trans HB1.out.size (HF.out.2.2 k hk)⟩

/-- no value -/
def nx : RV := ⟨.slice none 0 0, .slice none 0 0, []⟩
/-- the record of kind 1 -/
def r1 : PR := ⟨1, 0, 0, 0, [], []⟩
theorem r1_at (F : Foot) (w : World) : RecAt F w r1 nx := ⟨RdB.nil _ _, ⟨RdV.nil _ _ _, by simp [nx]⟩, rfl, by simp [r1], by simp [r1], by simp [r1]⟩
theorem r1_body : bodyR r1 = [1, 0, 0, 0, 0, 0] := by
  simp [bodyR, headR, txt, r1, vi_lt]
theorem r1_ok : RecOk r1 := ⟨by decide, by rw [r1_body]; simp, by simp [r1], by simp [r1], by simp [r1]⟩
theorem r1_len : recLen r1 = 14 := by unfold recLen; rw [r1_body]; rfl

theorem app_new (room : Nat) (h : 14 ≤ room) : ((DM.new 1 room).append (recB r1 1)).2 = 0 := by
  unfold DM.append DM.new
  simp only [List.length_nil, recB_len, r1_len, Nat.zero_add]
  rw [if_neg (by simp), if_neg (by omega), if_neg (by omega)]
end Mun
end

section
/- Contracts of a log: Force. -/
set_option maxRecDepth 100000
set_option linter.unusedVariables false
set_option linter.unusedSimpArgs false
namespace Mun
open Go Go.RowKit
open Go.Proofs

def LM.done (m : LM) : LM := { m with forced := lenL m.recs }

theorem l_force_no (w : World) (D L : Nat) (m : LM) (bv sv : Value) (lsn : Nat) (h : LMem w D L m bv sv) (hl : lsn < m.base + m.forced) :
    Calls Try.prog 18 #[.pointer (some ⟨L, 0, none⟩), .int .u64 lsn] w fun e w' => e = .returned (.int .i64 0) ∧ ∃ k, w' = w.drewN k := by
  have hf := l_forced h
  have HF := Lib.hid hf
  have t1 : (lsn : Int) < ((m.base + m.forced : Nat) : Int) := by omega
  obtain ⟨q, hq⟩ : ∃ q, m.base + m.forced = q := ⟨_, rfl⟩
  rw [hq] at t1 HF
  clear h hf hl hq
  go_enter Try.func18, Try.ntmps18
  go_wp2_with fail
  refine HF.out.mono ?_
  rintro e w2 ⟨rfl, k, rfl⟩
  go_wp2
  go_ret
  exact ⟨rfl, _, rfl⟩

def ForceOut (w : World) (D L : Nat) (Z F : Foot) (dm : DM) (m : LM) (bv sv : Value) (e : Ending) (w' : World) : Prop :=
  (dm.force.2 ≠ 0 ∧ e = .returned (.int .i64 dm.force.2) ∧ ∃ F', LogAt w' D L Z F' dm.force.1 m bv sv ∧ Chg (uf F (lfoot L bv sv)) (uf F' (lfoot L bv sv)) w w') ∨
  (dm.force.2 = 0 ∧ e = .returned (.int .i64 0) ∧ ∃ F', LogAt w' D L Z F' dm.force.1 m.done bv sv ∧ Chg (uf F (lfoot L bv sv)) (uf F' (lfoot L bv sv)) w w')

set_option maxHeartbeats 1000000 in
theorem l_force {Z : Foot} (w : World) (D L : Nat) (F : Foot) (dm : DM) (m : LM) (bv sv : Value) (lsn : Nat) (h : LogAt w D L Z F dm m bv sv) (ho : dm.ops < 4398046511104) (hl : m.base + m.forced ≤ lsn) :
    Calls Try.prog 18 #[.pointer (some ⟨L, 0, none⟩), .int .u64 lsn] w (ForceOut w D L Z F dm m bv sv) := by
  obtain ⟨ba, bn, bc, sa, sn, sc, rfl, rfl, HN⟩ := h.mem.forms
  have hf := l_forced h.mem
  have HF := Lib.hid hf
  have t1 : ¬ (lsn : Int) < ((m.base + m.forced : Nat) : Int) := by omega
  obtain ⟨q, hq⟩ : ∃ q, m.base + m.forced = q := ⟨_, rfl⟩
  rw [hq] at t1 HF
  have HH := Lib.hid h
  have HO := Lib.hid ho
  clear h hf hl hq ho
  go_enter Try.func18, Try.ntmps18
  go_wp2_with fail
  refine HF.out.mono ?_
  rintro e w2 ⟨rfl, k2, hk2⟩
  have h2 : LogAt w2 D L Z F dm m (.slice ba bn bc) (.slice sa sn sc) := by rw [hk2]; exact HH.out.drewN k2
  have hb2 : Below w.heap.size w w2 := by rw [hk2]; exact below_drewN (Below.refl _ _) k2
  have c0 : w2.cell? ⟨L, 0, none⟩ = some (.pointer (some ⟨D, 0, none⟩)) := h2.mem.cell 0
  have hfo := d_force w2 D F dm h2.disk HO.out
  have HFO := Lib.hid hfo
  have H2 := Lib.hid (And.intro h2 hb2)
  clear h2 hb2 hfo hk2
  obtain ⟨k, hk⟩ : ∃ k, dm.force.2 = k := ⟨_, rfl⟩
  go_wp2_with fail
  refine HFO.out.mono ?_
  rintro e w4 ⟨rfl, F', hd4, hc4⟩
  rw [hk]
  have hm4 : LMem w4 D L m (.slice ba bn bc) (.slice sa sn sc) := H2.out.1.mem.keep (fun k h1 => hc4.block k (H2.out.1.mem.lt k h1) (H2.out.1.disk.apart k (.inl h1)))
  have hchg : Chg (uf F (lfoot L (.slice ba bn bc) (.slice sa sn sc))) (uf F' (lfoot L (.slice ba bn bc) (.slice sa sn sc))) w w4 := (Chg.of_below H2.out.2 _).trans (chg_uf hc4)
  have HX := Lib.hid (And.intro hd4 (And.intro hm4 hchg))
  have HK := Lib.hid hk
  clear hd4 hc4 hm4 hchg hk c0 HFO
  by_cases hk0 : k = 0
  · subst hk0
    have c2 : w4.cell? ⟨L, 2, none⟩ = some (.slice ba bn bc) := HX.out.2.1.cell 2
    have c4 : w4.cell? ⟨L, 4, none⟩ = some (.int .i64 m.forced) := HX.out.2.1.cell 4
    have f4 := HX.out.2.1.free 4
    obtain ⟨w5, hw5⟩ : ∃ w5, w4.setCell ⟨L, 4, none⟩ (.int .i64 bn) = w5 := ⟨_, rfl⟩
    have hne := HX.out.2.1
    have k5 : w5.heap[L]? = some (.cells (lcells D m.done (.slice ba bn bc) (.slice sa sn sc)) 86 (0, 0)) := by
      rw [← hw5]
      have h9 := block_setCell (i := 4) hne.blk (.int .i64 bn)
      rw [h9]
      simp [lcells, LM.done, HN.out.1]
    have ko : ∀ k, k ≠ L → w5.heap[k]? = w4.heap[k]? := fun k h1 => by rw [← hw5]; exact block_setCell_ne _ h1
    have m5 : LMem w5 D L m.done (.slice ba bn bc) (.slice sa sn sc) :=
      ⟨k5, ownsRow_keep hne.b (fun k e => ko k (fun e2 => hne.neB (by rw [← e2]; exact e))), ownsRow_keep hne.s (fun k e => ko k (fun e2 => hne.neS (by rw [← e2]; exact e))), ⟨hne.wf.recs, hne.wf.len, hne.wf.base, Nat.le_refl _, hne.wf.check⟩⟩
    have ch5 : Chg (lfoot L (.slice ba bn bc) (.slice sa sn sc)) (lfoot L (.slice ba bn bc) (.slice sa sn sc)) w4 w5 := by rw [← hw5]; exact chg_setCell _ _ _ (.inl rfl)
    have HY := Lib.hid (And.intro (LogAt.mk (HX.out.1.chgE (chg_uf ch5)) m5) (HX.out.2.2.trans (chg_ufE ch5)))
    clear hne k5 ko m5 ch5
    go_wp2
    go_ret
    exact .inr ⟨HK.out, rfl, F', HY.out.1, HY.out.2⟩
  · have hz : (k != 0) = true := by simpa using hk0
    go_wp2
    go_ret
    exact .inl ⟨by rw [HK.out]; exact hk0, by rw [HK.out]; rfl, F', ⟨HX.out.1, HX.out.2.1⟩, HX.out.2.2⟩
end Mun
end

section
/- Contracts of a log: the mark it lays; a copy. -/
set_option maxRecDepth 100000
set_option linter.unusedVariables false
set_option linter.unusedSimpArgs false
namespace Mun
open Go Go.RowKit
open Go.Proofs

def markB (base check : Nat) : Bytes := leBytes 8 base ++ leBytes 8 check

def MarkOut (w : World) (base check : Nat) (e : Ending) (w' : World) : Prop := ∃ v, e = .returned v ∧ OwnB w' w.heap.size 5 v (markB base check) ∧ Below w.heap.size w w'

theorem l_marked (w : World) (p : Value) (base check : Nat) : Calls Try.prog 54 #[p, .int .u64 base, .int .u64 check] w (MarkOut w base check) := by
  have hl := lay_any w w.heap.size (.slice none 0 0) [] base 8 8 rfl (Nat.le_refl _) (OwnB.nil _ _ _) (Nat.le_refl _) (by simp)
  have HL := Lib.hid hl
  clear hl
  go_enter Try.func54, Try.ntmps54
  go_wp2_with fail
  refine HL.out.mono ?_
  rintro e w2 ⟨v, rfl, ho, hb⟩
  have hl2 := lay_any w2 w.heap.size v ([] ++ leBytes 8 base) check 8 8 rfl (Nat.le_refl _) ho hb.size (by simp [leBytes])
  obtain ⟨a, n, c, rfl, -, -, -⟩ := OwnB.formN ho (by simp [leBytes])
  have HL2 := Lib.hid hl2
  have HB := Lib.hid hb
  clear hl2 ho hb HL
  go_wp2_with fail
  refine HL2.out.mono ?_
  rintro e w3 ⟨v, rfl, ho, hb⟩
  obtain ⟨a, n, c, rfl, -, -, -⟩ := OwnB.formN ho (by simp [leBytes])
  have HO := Lib.hid (And.intro ho (HB.out.trans hb))
  clear ho hb
  go_wp2
  go_ret
  exact ⟨_, rfl, by have := HO.out.1; simpa [markB] using this, HO.out.2⟩

def CloneOut (w : World) (l : Bytes) (e : Ending) (w' : World) : Prop := ∃ v, e = .returned v ∧ OwnB w' w.heap.size 5 v l ∧ Below w.heap.size w w'

theorem l_clone {F : Foot} (w : World) (v : Value) (l : Bytes) (hv : RdB F w v l) (hl : l.length ≤ 140737488355328) : Calls Try.prog 56 #[v] w (CloneOut w l) := by
  have qT : ∀ (w : World) (a : Option Addr) (n c n' c' : Nat), (binOp .eql 23 (.slice a n c) (.slice none n' c')).run Try.prog w = .ok (.bool a.isNone) w := fun w a n c n' c' => Lib.run_eql_slice_nil w _ _ a n c n' c' Try.underlying23
  obtain ⟨g, cp, w2, hr, ho, hb, -⟩ := append_empty_bytes (ty := 23) hv hl
  obtain ⟨a, n, c, rfl, HN, -, -⟩ := hv.formN
  cases a with
  | none =>
    have h0 : l = [] := by
      rcases Nat.eq_zero_or_pos l.length with h1 | h1
      · exact List.eq_nil_of_length_eq_zero h1
      · obtain ⟨g, off, c, e, -⟩ := hv.at_ h1
        simp at e
    have H0 := Lib.hid h0
    clear hr ho hb hv hl h0
    go_enter Try.func56, Try.ntmps56
    go_wp2
    go_ret
    exact ⟨_, rfl, by rw [H0.out]; exact OwnB.nil _ _ _, Below.refl _ _⟩
  | some a =>
    have HR := Lib.hid hr
    have HO := Lib.hid (And.intro ho hb)
    clear hr ho hb hv hl
    go_enter Try.func56, Try.ntmps56
    go_wp2_with (at_builtin; refine wpList_append_eq rfl rfl HR.out rfl rfl ?_)
    go_ret
    exact ⟨_, rfl, HO.out.1, HO.out.2⟩
end Mun
end

section
/- The walk of munimentlaw7.awake. -/
set_option maxRecDepth 100000
set_option linter.unusedVariables false
set_option linter.unusedSimpArgs false
namespace Mun
open Go Go.RowKit
open Go.Proofs

theorem r1_val (x : RV) : rval r1 x = .agg #[.int .i64 1, .int .u64 0, .int .u64 0, .int .u64 0, x.dv, x.cv] := rfl

theorem uf_own {F E : Foot} {B : Nat} (hF : ∀ k, F k → B ≤ k) (hE : ∀ k, E k → B ≤ k) : ∀ k, k < B → ¬ uf F E k := fun k hk h => by
  rcases h with h | h
  · have := hF k h; omega
  · have := hE k h; omega

/-- the record of kind 1 is laid into a new log -/
theorem app_first {Z : Foot} (w : World) (D L : Nat) (F : Foot) (room : Nat) (hr : 14 ≤ room) (bv sv : Value) (h : LogAt w D L Z F (DM.new 1 room) LM.new bv sv) :
    Calls Try.prog 16 #[.pointer (some ⟨L, 0, none⟩), .agg #[.int .i64 1, .int .u64 0, .int .u64 0, .int .u64 0, .slice none 0 0, .slice none 0 0]] w fun e w' =>
      e = .returned (.tuple #[.int .u64 1, .int .i64 0]) ∧ ∃ F' bv' sv', LogAt w' D L Z F' ((DM.new 1 room).append (recB r1 1)).1 (LM.new.push r1) bv' sv' ∧ Chg (uf F (lfoot L bv sv)) (uf F' (lfoot L bv' sv')) w w' := by
  have h9 := app_dev w D L F (DM.new 1 room) LM.new bv sv r1 nx h (r1_at NoF w) r1_ok (by simp [szR, r1]) (by simp [DM.new]) (fun _ => rfl)
  rw [r1_val] at h9
  refine Calls.mono h9 ?_
  have hfin : LM.new.fin = 1 := rfl
  rintro e w' (⟨h1, _⟩ | ⟨h1, rfl, F', bv', sv', h2, h3⟩)
  · rw [hfin, app_new room hr] at h1; exact absurd rfl h1
  · rw [hfin] at h2 ⊢
    exact ⟨rfl, F', bv', sv', h2, h3⟩

theorem read_first (w : World) (D L : Nat) (bv sv : Value) (h : LMem w D L (LM.new.push r1) bv sv) : Calls Try.prog 19 #[.pointer (some ⟨L, 0, none⟩), .int .u64 1] w fun e w' =>
    ∃ x, e = .returned (.tuple #[rval r1 x, .int .u64 15, .int .i64 0]) ∧ RecAt (OldF w.heap.size) w' r1 x ∧ Below w.heap.size w w' := by
  have h9 := l_read_yes w D L (LM.new.push r1) bv sv 0 h (by simp [LM.push, LM.new])
  have e1 : (LM.new.push r1).base + (LM.new.push r1).off 0 = 1 := rfl
  have e2 : (LM.new.push r1).base + (LM.new.push r1).off (0 + 1) = 15 := by
    show 1 + lenL [r1] = 15
    simp [lenL, r1_len]
  have e3 : (LM.new.push r1).recs[0]'(by simp [LM.push, LM.new]) = r1 := rfl
  rw [e1, e2, e3] at h9
  exact h9

set_option maxHeartbeats 1000000 in
theorem awake_any (w : World) : Calls Try.prog 9 #[] w fun e w' => e = .returned (.bool true) ∧ Below w.heap.size w w' := by
  have hf : Calls Try.prog 13 #[.int .i64 100] w (FreshOut w 100) := fresh_any w 100 (by omega)
  have HF := Lib.hid hf
  clear hf
  go_enter Try.func9, Try.ntmps9
  go_wp2_with fail
  refine HF.out.mono ?_
  rintro e w2 ⟨D, L, F, bv, sv, rfl, hlog, hb2, hF, hE⟩
  have hap := app_first w2 D L F 100 (by omega) bv sv hlog
  have HAP := Lib.hid hap
  have HB := Lib.hid (And.intro hb2 (And.intro hF hE))
  clear hap hlog hb2 hF hE HF
  go_wp2_with fail
  refine HAP.out.mono ?_
  rintro e w3 ⟨rfl, F', bv', sv', hlog3, hc3⟩
  have hb3 : Below w.heap.size w w3 := HB.out.1.trans (hc3.below HB.out.1.size (uf_own HB.out.2.1 HB.out.2.2))
  have hrd := read_first w3 D L bv' sv' hlog3.mem
  have HRD := Lib.hid hrd
  have HB3 := Lib.hid hb3
  clear hrd hb3 hlog3 hc3 HAP
  go_wp2_with fail
  refine HRD.out.mono ?_
  rintro e w4 ⟨x2, rfl, hrec, hb4⟩
  obtain ⟨da, dn, dc, ca, cn, cc, e1, e2, -⟩ := hrec.open
  have hb5 : Below w4.heap.size w4 (w4.alloc (.cells #[.int .i64 1, .int .u64 0, .int .u64 0, .int .u64 0, .slice da dn dc, .slice ca cn cc] 26)) := (Below.refl _ _).alloc (Nat.le_refl _) _
  have hsm := same_any (w4.alloc (.cells #[.int .i64 1, .int .u64 0, .int .u64 0, .int .u64 0, .slice da dn dc, .slice ca cn cc] 26)) r1 x2 nx (hrec.below hb5) (r1_at NoF _)
  rw [r1_val, r1_val, e1, e2, show nx.dv = .slice none 0 0 from rfl, show nx.cv = .slice none 0 0 from rfl] at hsm
  rw [r1_val, e1, e2]
  have HSM := Lib.hid hsm
  have hbw := HB3.out.trans (hb4.mono HB3.out.size)
  have HB5 := Lib.hid (And.intro (hbw.trans (hb5.mono hbw.size)) (hbw.trans (hb5.mono hbw.size)).size)
  clear hrec hb4 hb5 hsm e1 e2 hbw HRD
  go_wp2_with (go_at_call 12; (with_reducible refine HSM.out.mono ?_); rintro e w6 ⟨rfl, hb6⟩; have HB6 := Lib.hid (HB5.out.1.trans (hb6.mono HB5.out.2)); clear hb6)
  go_ret
  exact ⟨rfl, HB6.out⟩
end Mun
end
