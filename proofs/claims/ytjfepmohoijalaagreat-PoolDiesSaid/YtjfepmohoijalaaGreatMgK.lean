/- Texts of mine, one behind the other: LogR, LogA, LogB, LogC. -/
import Derived.Test.YtjfepmohoijalaaGreatMgJ
import Derived.Test.YtjfepmohoijalaaGreatMgQ
section
/- How a log lies in memory. -/
set_option maxRecDepth 100000
set_option linter.unusedVariables false
set_option linter.unusedSimpArgs false
namespace Mun
open Go Go.RowKit
open Go.Proofs

def iv (l : List Nat) : List Value := l.map fun (n : Nat) => Value.int .i64 (n : Int)
def lcells (D : Nat) (m : LM) (bv sv : Value) : Array Value := #[.pointer (some ⟨D, 0, none⟩), .int .u64 m.base, bv, sv, .int .i64 m.forced, .int .u64 m.check]
def lfoot (L : Nat) (bv sv : Value) : Foot := fun k => k = L ∨ bv.ownBlock = some k ∨ sv.ownBlock = some k

/-- a log's own memory -/
structure LMem (w : World) (D L : Nat) (m : LM) (bv sv : Value) : Prop where
  blk : w.heap[L]? = some (.cells (lcells D m bv sv) 82 (0, 0))
  b : OwnB w 0 5 bv m.bytes
  s : w.ownsRow 0 3 1 sv m.recs.length (iv (offs 0 m.recs))
  wf : m.Wf

/-- two sets of blocks -/
def uf (A B : Foot) : Foot := fun k => A k ∨ B k

structure LogAt (w : World) (D L : Nat) (Z F : Foot) (dm : DM) (m : LM) (bv sv : Value) : Prop where
  disk : DiskAt w D (uf (lfoot L bv sv) Z) F dm
  mem : LMem w D L m bv sv

section
variable {w w' : World} {D L : Nat} {F Z : Foot} {dm dm' : DM} {m m' : LM} {bv sv : Value}

theorem LMem.keep (h : LMem w D L m bv sv) (hk : ∀ k, lfoot L bv sv k → w'.heap[k]? = w.heap[k]?) : LMem w' D L m bv sv :=
  ⟨(hk L (.inl rfl)).trans h.blk, ownsRow_keep h.b (fun k e => hk k (.inr (.inl e))), ownsRow_keep h.s (fun k e => hk k (.inr (.inr e))), h.wf⟩
theorem LMem.lt (h : LMem w D L m bv sv) (k : Nat) (hk : lfoot L bv sv k) : k < w.heap.size := by
  rcases hk with rfl | h1 | h1
  · exact lt_of_block h.blk
  · exact (h.b.lt k h1).2
  · exact (h.s.lt k h1).2
theorem LMem.neB (h : LMem w D L m bv sv) : bv.ownBlock ≠ some L := fun e => by obtain ⟨c, hc⟩ := ownsRow_blk h.b e; exact blk_ne h.blk hc (by decide) rfl
theorem LMem.neS (h : LMem w D L m bv sv) : sv.ownBlock ≠ some L := fun e => by obtain ⟨c, hc⟩ := ownsRow_blk h.s e; exact blk_ne h.blk hc (by decide) rfl
theorem LMem.neBS (h : LMem w D L m bv sv) (k : Nat) (h1 : bv.ownBlock = some k) (h2 : sv.ownBlock = some k) : False := by
  obtain ⟨c, hc⟩ := ownsRow_blk h.b h1
  obtain ⟨c', hc'⟩ := ownsRow_blk h.s h2
  exact blk_ne hc hc' (by decide) rfl
theorem LMem.cell (h : LMem w D L m bv sv) (i : Nat) : w.cell? ⟨L, i, none⟩ = (lcells D m bv sv)[i]? := cell_of_row w L i _ _ _ h.blk
theorem LMem.free (h : LMem w D L m bv sv) (i : Nat) : w.frozen? ⟨L, i, none⟩ = false := by simp [World.frozen?, h.blk]

theorem LogAt.below (h : LogAt w D L Z F dm m bv sv) (hb : Below w.heap.size w w') : LogAt w' D L Z F dm m bv sv :=
  ⟨h.disk.below hb, h.mem.keep (fun k hk => hb.block k (h.mem.lt k hk))⟩
theorem LogAt.drewN (h : LogAt w D L Z F dm m bv sv) (k : Nat) : LogAt (w.drewN k) D L Z F dm m bv sv := h.below (below_drewN (Below.refl _ _) k)

theorem LMem.forms (h : LMem w D L m bv sv) : ∃ ba bn bc sa sn sc, bv = .slice ba bn bc ∧ sv = .slice sa sn sc ∧ Hid (bn = lenL m.recs ∧ sn = m.recs.length) := by
  obtain ⟨ba, bn, bc, e1, h1, _⟩ := (OwnB.rd (F := NoF) h.b (fun _ _ => noF _)).formN
  obtain ⟨sa, sc, e2, _⟩ := (RdV.of_own (F := NoF) h.s (fun _ _ => noF _)).form
  exact ⟨ba, bn, bc, sa, _, sc, e1, e2, by have := h1.out; unfold LM.bytes at this; rw [encL_length] at this; exact this, rfl⟩

theorem l_end (h : LMem w D L m bv sv) : Calls Tryz.prog 9 #[.pointer (some ⟨L, 0, none⟩)] w fun e w' => e = .returned (.int .u64 m.fin) ∧ ∃ k, w' = w.drewN k := by
  obtain ⟨ba, bn, bc, sa, sn, sc, rfl, rfl, HN⟩ := h.forms
  have c1 : w.cell? ⟨L, 1, none⟩ = some (.int .u64 m.base) := h.cell 1
  have c2 : w.cell? ⟨L, 2, none⟩ = some (.slice ba bn bc) := h.cell 2
  have hb := h.wf.base
  have hl := h.wf.len
  have hf : m.fin = m.base + bn := by unfold LM.fin; rw [HN.out.1]
  rw [hf]
  have hbn : bn ≤ 16777216 := by rw [HN.out.1]; exact hl
  have v1 : IntKind.u64.wrap (bn : Int) = (bn : Int) := wrap_u64_nat _ (by omega)
  have v2 : IntKind.u64.wrap ((m.base : Int) + (bn : Int)) = (m.base : Int) + (bn : Int) := by
    have := wrap_u64_nat (m.base + bn) (by omega)
    push_cast at this
    exact this
  clear h hb hl hf hbn HN
  go_enter Tryz.func9, Tryz.ntmps9
  go_upto_region 1 with (fail)
  go_quiet (fail)
  go_wp2
  go_ret
  exact ⟨ret_int (by push_cast; rfl), _, rfl⟩

theorem l_forced (h : LMem w D L m bv sv) : Calls Tryz.prog 10 #[.pointer (some ⟨L, 0, none⟩)] w fun e w' => e = .returned (.int .u64 (m.base + m.forced : Nat)) ∧ ∃ k, w' = w.drewN k := by
  have c1 : w.cell? ⟨L, 1, none⟩ = some (.int .u64 m.base) := h.cell 1
  have c4 : w.cell? ⟨L, 4, none⟩ = some (.int .i64 m.forced) := h.cell 4
  have hb := h.wf.base
  have hl := h.wf.len
  have hfo := h.wf.forced
  have v1 : IntKind.u64.wrap (m.forced : Int) = (m.forced : Int) := wrap_u64_nat _ (by omega)
  have v2 : IntKind.u64.wrap ((m.base : Int) + (m.forced : Int)) = (m.base : Int) + (m.forced : Int) := by
    have := wrap_u64_nat (m.base + m.forced) (by omega)
    push_cast at this
    exact this
  clear h hb hl hfo
  go_enter Tryz.func10, Tryz.ntmps10
  go_upto_region 1 with (fail)
  go_quiet (fail)
  go_wp2
  go_ret
  exact ⟨ret_int (by push_cast; rfl), _, rfl⟩
end
end Mun
end

section
/- Contracts of a log: Append. -/
set_option maxRecDepth 100000
set_option linter.unusedVariables false
set_option linter.unusedSimpArgs false
namespace Mun
open Go Go.RowKit
open Go.Proofs


theorem chg_app {E E' : Foot} {w w' : World} {o : Obj} {row : Option Nat} (h : (w.alloc o).grownBy w' row) (hE : ∀ k, row = some k → E k) (hE' : ∀ k, E' k → E k ∨ (w.heap.size ≤ k ∧ k < w'.heap.size)) : Chg E E' w w' := by
  have hs := h.size
  simp only [World.size_alloc] at hs
  exact ⟨h.os, h.tape, h.output, by omega, fun k hk hn => by rw [h.block k (by simp; omega) (fun e => hn (hE k e.symm)), heap_alloc_old _ _ hk], hE'⟩
theorem chg_app0 {E E' : Foot} {w w' : World} {row : Option Nat} (h : w.grownBy w' row) (hE : ∀ k, row = some k → E k) (hE' : ∀ k, E' k → E k ∨ (w.heap.size ≤ k ∧ k < w'.heap.size)) : Chg E E' w w' :=
  ⟨h.os, h.tape, h.output, h.size, fun k hk hn => h.block k hk (fun e => hn (hE k e.symm)), hE'⟩

theorem info_int : (Tryz.prog.info? 3).map (fun i => (i.zero, i.size, i.bytes)) = some (some (.int .i64 0), 1, 8) := by kernel_rfl

theorem iv_append (a b : List Nat) : iv (a ++ b) = iv a ++ iv b := by simp [iv]

/-- a number laid behind a row of numbers -/
theorem push_int {w : World} {B : Nat} {ty : TypeId} {v : Value} {n : Nat} {xs : List Nat} (x : Nat) (h : w.ownsRow B 3 1 v n (iv xs)) (hB : B ≤ w.heap.size) (hl : n < 16777216) :
    ∃ R cp w', (Builtin.append_ #[80, 80] ty #[v, .slice (some ⟨w.heap.size, 0, none⟩) 1 1]).run Tryz.prog (w.alloc (.cells #[.int .i64 x] 3)) = .ok (.slice (some ⟨R, 0, none⟩) (n + 1) cp) w' ∧
      w'.ownsRow B 3 1 (.slice (some ⟨R, 0, none⟩) (n + 1) cp) (n + 1) (iv (xs ++ [x])) ∧
      (w.alloc (.cells #[.int .i64 x] 3)).grownBy w' v.ownBlock ∧ (v.ownBlock = some R ∨ w.heap.size < R) ∧ R < w'.heap.size := by
  obtain ⟨i, hi, hz, h1, h2⟩ := info_of info_int
  have hsrc : RdV (fun _ => False) (w.alloc (.cells #[.int .i64 x] 3)) 1 (.slice (some ⟨w.heap.size, 0, none⟩) 1 1) 1 (iv [x]) :=
    ⟨rfl, _, _, rfl, Nat.le_refl _, by unfold maxLen; omega, by simp, fun _ => ⟨w.heap.size, 0, _, _, (0, 0), rfl, fun h => h, heap_alloc_new w _, rfl⟩⟩
  obtain ⟨v', w', hr, ho, hg, hob, hnil⟩ := run_append_rd (P := Tryz.prog) (base := B) (ty := ty) Tryz.underlying80 hi hz h1 h2 rfl (by decide) (World.ownsRow.alloc h _) hsrc
    (by intro u hu; simp only [iv, List.map_cons, List.map_nil, List.mem_cons, List.not_mem_nil, or_false] at hu; subst hu; rfl) (by omega) (by omega) (by simp; omega)
  rcases ho.2 with ⟨rfl, h0⟩ | ⟨R, cp, cur, rfl, hb, hR, hrest⟩
  · exact absurd (hnil.1 rfl).2 (by omega)
  · refine ⟨R, cp, w', hr, by rw [iv_append]; exact ho, hg, ?_, lt_of_block hR⟩
    rcases hob with h3 | h3
    · exact .inl h3.symm
    · simp [Value.ownBlock] at h3; exact .inr (by omega)

def LM.push (m : LM) (r : PR) : LM := { m with recs := m.recs ++ [r] }

section
variable (w : World) (D L : Nat) (F : Foot) (dm : DM) (m : LM) (bv sv : Value) (r : PR) (x : RV)

/-- nothing is done -/
def AppNo (Z : Foot) (k : Int) (e : Ending) (w' : World) : Prop := e = .returned (.tuple #[.int .u64 0, .int .i64 k]) ∧ LogAt w' D L Z F dm m bv sv ∧ Below w.heap.size w w'

def AppDev (Z : Foot) (e : Ending) (w' : World) : Prop :=
  ((dm.append (recB r m.fin)).2 ≠ 0 ∧ e = .returned (.tuple #[.int .u64 0, .int .i64 (dm.append (recB r m.fin)).2]) ∧ ∃ F', LogAt w' D L Z F' (dm.append (recB r m.fin)).1 m bv sv ∧ Chg (uf F (lfoot L bv sv)) (uf F' (lfoot L bv sv)) w w') ∨
  ((dm.append (recB r m.fin)).2 = 0 ∧ e = .returned (.tuple #[.int .u64 m.fin, .int .i64 0]) ∧ ∃ F' bv' sv', LogAt w' D L Z F' (dm.append (recB r m.fin)).1 (m.push r) bv' sv' ∧ Chg (uf F (lfoot L bv sv)) (uf F' (lfoot L bv' sv')) w w')

theorem chg_uf {F F' E : Foot} {w w' : World} (h : Chg F F' w w') : Chg (uf F E) (uf F' E) w w' :=
  h.weak (fun k hk => .inl hk) (fun k hk => by
    rcases hk with h1 | h1
    · exact .inl h1
    · exact .inr (.inl (.inr h1)))
theorem chg_ufE {F E E' : Foot} {w w' : World} (h : Chg E E' w w') : Chg (uf F E) (uf F E') w w' :=
  h.weak (fun k hk => .inr hk) (fun k hk => by
    rcases hk with h1 | h1
    · exact .inr (.inl (.inl h1))
    · exact .inl h1)

theorem rdU_one {F F' E : Foot} {w w' : World} {size n : Nat} {v : Value} {xs : List Value} (h : RdV (fun k => F k ∨ E k) w size v n xs) (hc : Chg F F' w w') : RdV (fun k => F' k ∨ E k) w' size v n xs :=
  h.keep (fun k h1 h2 => hc.block k h1 (fun e => h2 (.inl e))) (fun k h1 h2 => h2.imp (fun h3 => (hc.foot k h3).elim id (fun h4 => by omega)) id)
theorem append_ok_log {dm : DM} {b : Bytes} (h : (dm.append b).2 = 0) : (dm.append b).1.log = dm.log ++ b := by
  unfold DM.append at *
  cases hd : dm.dead
  · by_cases hr : dm.room < dm.log.length + b.length
    · simp [hd, hr] at h
    · by_cases hf : dm.fuse = 0
      · simp [hd, hr, hf] at h
      · simp only [hd, hf, if_false, Bool.false_eq_true]
        rw [if_neg hr]
  · simp [hd] at h
end

theorem LM.push_bytes (m : LM) (r : PR) : (m.push r).bytes = m.bytes ++ recB r m.fin := encL_snoc _ _ _
theorem LM.push_offs (m : LM) (r : PR) : offs 0 (m.push r).recs = offs 0 m.recs ++ [lenL m.recs] := by
  have := offs_snoc 0 m.recs r
  rw [Nat.zero_add] at this
  exact this
theorem LM.push_wf {m : LM} {r : PR} (h : m.Wf) (hr : RecOk r) (hl : lenL m.recs + recLen r ≤ 16777216) : (m.push r).Wf :=
  ⟨fun q hq => by
    rcases List.mem_append.1 hq with h1 | h1
    · exact h.recs q h1
    · rw [List.mem_singleton] at h1; subst h1; exact hr, by show lenL (m.recs ++ [r]) ≤ _; rw [lenL_append]; simp [lenL]; exact hl, h.base, by show m.forced ≤ lenL (m.recs ++ [r]); rw [lenL_append]; have := h.forced; omega, h.check⟩

set_option maxHeartbeats 2000000 in
theorem app_dev {G Z : Foot} (w : World) (D L : Nat) (F : Foot) (dm : DM) (m : LM) (bv sv : Value) (r : PR) (x : RV) (h : LogAt w D L Z F dm m bv sv) (hr : RecAt G w r x) (hok : RecOk r) (hsz : szR r ≤ 4194304) (ho : dm.ops < 4398046511104) (hlog : dm.dead = false → dm.log = m.bytes) :
    Calls Tryz.prog 19 #[.pointer (some ⟨L, 0, none⟩), rval r x] w (AppDev w D L F dm m bv sv r Z) := by
  obtain ⟨da, dn, dc, ca, cn, cc, e1, e2, -⟩ := hr.open
  obtain ⟨ba, bn, bc, sa, sn, sc, rfl, rfl, HN⟩ := h.mem.forms
  have hfin : m.fin < 18446744073709551616 := by unfold LM.fin; have := h.mem.wf.base; have := h.mem.wf.len; omega
  have hby := fun W (hb : Below w.heap.size w W) => bytes_ok W r x m.fin hfin (hr.below hb) hok.good hsz hok.big
  have hen := fun W (hb : Below w.heap.size w W) => l_end (h.below hb).mem
  unfold rval at hby ⊢
  rw [e1, e2] at hby
  rw [e1, e2]
  have HY := Lib.hid hby
  have HE := Lib.hid hen
  have HH := Lib.hid h
  have HOK := Lib.hid hok
  have HOP := Lib.hid ho
  have HLG := Lib.hid hlog
  clear hby hen h hr e1 e2 hok hsz ho hlog hfin
  go_enter Tryz.func19, Tryz.ntmps19
  go_wp2_with fail
  refine (HE.out _ ((Below.refl _ _).alloc (Nat.le_refl _) _)).mono ?_
  rintro e w2 ⟨rfl, k2, hk2⟩
  have hb2 : Below w.heap.size w w2 := by rw [hk2]; exact below_drewN ((Below.refl _ _).alloc (Nat.le_refl _) _) k2
  have hbx : w2.heap[w.heap.size]? = some (.cells (rcs r (.slice da dn dc) (.slice ca cn cc)) 59 (0, 0)) := by rw [hk2]; exact heap_alloc_new w _
  obtain ⟨a0, a1, a2, a3, a4, a5⟩ := box6 (w := w) hbx
  have HB2 := Lib.hid hb2
  clear hk2 hb2 hbx
  go_wp2_with fail
  refine (HY.out w2 HB2.out).mono ?_
  rintro e w3 ⟨g, n, c, rfl, HL, hown, hb3⟩
  have hb03 := HB2.out.trans (hb3.mono HB2.out.size)
  have h3 := HH.out.below hb03
  have hrd3 : RdB F w3 (.slice (some ⟨g, 0, none⟩) n c) (recB r m.fin) := hown.rd (fun k hk hF => by have := HH.out.disk.foot_lt k hF; have := HB2.out.size; omega)
  have hrl3 : RdB (fun k => F k ∨ lfoot L (.slice ba bn bc) (.slice sa sn sc) k) w3 (.slice (some ⟨g, 0, none⟩) n c) (recB r m.fin) := hown.rd (fun k hk hF => by
    have := HB2.out.size
    rcases hF with hF | hF
    · have := HH.out.disk.foot_lt k hF; omega
    · have := HH.out.mem.lt k hF; omega)
  have hap := d_append w3 D F dm h3.disk HOP.out _ _ hrd3
  have c0 : w3.cell? ⟨L, 0, none⟩ = some (.pointer (some ⟨D, 0, none⟩)) := h3.mem.cell 0
  have HAP := Lib.hid hap
  have HB03 := Lib.hid hb03
  have H3 := Lib.hid h3
  have HRL := Lib.hid hrl3
  clear hown hb3 hb03 h3 hrd3 hrl3 hap a0 a1 a2 a3 a4 a5
  obtain ⟨k, hk⟩ : ∃ k, (dm.append (recB r m.fin)).2 = k := ⟨_, rfl⟩
  go_wp2_with fail
  refine HAP.out.mono ?_
  rintro e w4 ⟨rfl, F', hd4, hc4⟩
  rw [hk]
  have hne : ∀ k, lfoot L (.slice ba bn bc) (.slice sa sn sc) k → ¬ F k := fun k h1 => HH.out.disk.apart k (.inl h1)
  have hm4 : LMem w4 D L m (.slice ba bn bc) (.slice sa sn sc) := H3.out.mem.keep (fun k h1 => hc4.block k (H3.out.mem.lt k h1) (hne k h1))
  have hrd4 : RdB (fun k => F' k ∨ lfoot L (.slice ba bn bc) (.slice sa sn sc) k) w4 (.slice (some ⟨g, 0, none⟩) n c) (recB r m.fin) := rdU_one HRL.out hc4
  have hchg : Chg (uf F (lfoot L (.slice ba bn bc) (.slice sa sn sc))) (uf F' (lfoot L (.slice ba bn bc) (.slice sa sn sc))) w w4 := (Chg.of_below HB03.out _).trans (chg_uf hc4)
  have HD4 := Lib.hid hd4
  have HM4 := Lib.hid hm4
  have HRD := Lib.hid hrd4
  have HCH := Lib.hid hchg
  have HK := Lib.hid hk
  clear hd4 hc4 hne hm4 hrd4 hchg HAP HRL c0 hk
  by_cases hk0 : k = 0
  · subst hk0
    obtain ⟨hbn, hsn⟩ := HN.out
    have hlg := append_ok_log HK.out
    have hal : dm.dead = false := by
      cases hd : dm.dead
      · rfl
      · have h9 := HK.out; simp [DM.append, hd] at h9
    have hln : lenL m.recs + recLen r ≤ 16777216 := by
      have h8 := HD4.out.wf.room
      have h9 := HD4.out.wf.room24
      have h7 := congrArg List.length hlg
      rw [HLG.out hal, List.length_append, recB_len] at h7
      have e7 : m.bytes.length = lenL m.recs := encL_length _ _
      omega
    have hsn2 : sn < 16777216 := by rw [hsn]; have := lenL_len m.recs; omega
    have hs4 := HM4.out.s
    rw [← hsn] at hs4
    obtain ⟨R, cp, w5, hr5, ho5, hg5, hor5, hlt5⟩ := push_int (w := w4.drew) (ty := 80) bn hs4 (Nat.zero_le _) hsn2
    have c2 : w4.drew.cell? ⟨L, 2, none⟩ = some (.slice ba bn bc) := HM4.out.cell 2
    have c3 : w4.drew.cell? ⟨L, 3, none⟩ = some (.slice sa sn sc) := HM4.out.cell 3
    have hS0 : w4.drew.cell? ⟨L, 2, none⟩ = some (.slice ba bn bc) ∧ w4.drew.cell? ⟨L, 3, none⟩ = some (.slice sa sn sc) := ⟨c2, c3⟩
    have hL4 : L < w4.heap.size := lt_of_block HM4.out.blk
    have kA : (w4.drew.alloc (.cells #[.int .i64 bn] 3)).heap[L]? = some (.cells (lcells D m (.slice ba bn bc) (.slice sa sn sc)) 82 (0, 0)) := (heap_alloc_old _ _ (show L < w4.drew.heap.size from hL4)).trans HM4.out.blk
    have hSA : (w4.drew.alloc (.cells #[.int .i64 bn] 3)).cell? ⟨L, 2, none⟩ = some (.slice ba bn bc) ∧ (w4.drew.alloc (.cells #[.int .i64 bn] 3)).cell? ⟨L, 3, none⟩ = some (.slice sa sn sc) := ⟨cell_of_row _ _ 2 _ _ _ kA, cell_of_row _ _ 3 _ _ _ kA⟩
    have hnS := HM4.out.neS
    have hnB := HM4.out.neB
    have k5 : w5.heap[L]? = some (.cells (lcells D m (.slice ba bn bc) (.slice sa sn sc)) 82 (0, 0)) := by
      rw [hg5.block L (by simp; omega) (fun e => hnS e.symm)]; exact kA
    have hS5 : w5.cell? ⟨L, 2, none⟩ = some (.slice ba bn bc) ∧ w5.cell? ⟨L, 3, none⟩ = some (.slice sa sn sc) := ⟨cell_of_row _ _ 2 _ _ _ k5, cell_of_row _ _ 3 _ _ _ k5⟩
    have f5 : w5.frozen? ⟨L, 3, none⟩ = false := by simp [World.frozen?, k5]
    have hRL : R ≠ L := by
      rcases hor5 with h1 | h1
      · rintro rfl; exact hnS h1
      · have h9 : w4.drew.heap.size = w4.heap.size := rfl; omega
    obtain ⟨w6, hw6⟩ : ∃ w6, w5.setCell ⟨L, 3, none⟩ (.slice (some ⟨R, 0, none⟩) (sn + 1) cp) = w6 := ⟨_, rfl⟩
    have k6 : w6.heap[L]? = some (.cells (lcells D m (.slice ba bn bc) (.slice (some ⟨R, 0, none⟩) (sn + 1) cp)) 82 (0, 0)) := by rw [← hw6]; exact block_setCell k5 _
    have s6 : w6.ownsRow 0 3 1 (.slice (some ⟨R, 0, none⟩) (sn + 1) cp) (sn + 1) (iv (offs 0 m.recs ++ [bn])) := ownsRow_keep ho5 (fun k e => by simp only [Value.ownBlock, Option.some.injEq] at e; subst e; rw [← hw6]; exact block_setCell_ne _ hRL)
    have z6 : w6.heap.size = w5.heap.size := by rw [← hw6]; simp [World.setCell]
    have ch5 : Chg (lfoot L (.slice ba bn bc) (.slice sa sn sc)) (lfoot L (.slice ba bn bc) (.slice (some ⟨R, 0, none⟩) (sn + 1) cp)) w4.drew w5 := chg_app hg5 (fun k e => .inr (.inr e)) (fun k hk => by
      rcases hk with h1 | h1 | h1
      · exact .inl (.inl h1)
      · exact .inl (.inr (.inl h1))
      · simp only [Value.ownBlock, Option.some.injEq] at h1
        subst h1
        rcases hor5 with h2 | h2
        · exact .inl (.inr (.inr h2))
        · exact .inr ⟨by omega, hlt5⟩)
    have ch6 : Chg (lfoot L (.slice ba bn bc) (.slice sa sn sc)) (lfoot L (.slice ba bn bc) (.slice (some ⟨R, 0, none⟩) (sn + 1) cp)) w4 w6 := by
      rw [← hw6]
      exact ((chg_drewN w4 1).trans ch5).trans (chg_setCell _ _ _ (.inl rfl))
    have b6 : OwnB w6 0 5 (.slice ba bn bc) m.bytes := ownB_same HM4.out.b (fun k e => by
      rw [← hw6, block_setCell_ne _ (fun e2 => hnB (by rw [← (show k = L from e2)]; exact e)), hg5.block k (by have := (HM4.out.b.lt k e).2; simp; omega) (fun e2 => HM4.out.neBS k e e2.symm), heap_alloc_old _ _ (show k < w4.drew.heap.size from (HM4.out.b.lt k e).2)]
      rfl)
    have r6 : RdB (fun k => F' k ∨ lfoot L (.slice ba bn bc) (.slice (some ⟨R, 0, none⟩) (sn + 1) cp) k) w6 (.slice (some ⟨g, 0, none⟩) n c) (recB r m.fin) :=
      RdV.keep HRD.out (fun k h1 h2 => ch6.block k h1 (fun e => h2 (.inr e))) (fun k h1 h2 => h2.imp id (fun h3 => (ch6.foot k h3).elim id (fun h4 => by omega)))
    obtain ⟨v7, w7, hr7, o7, g7, ob7, nl7⟩ := append_bytes (ty := 41) b6 r6 (by rw [recB_len]; have e7 : m.bytes.length = lenL m.recs := encL_length _ _; omega) (Nat.zero_le _)
    obtain ⟨Q, nq, cq, rfl, HQ, -, hQ7⟩ := OwnB.formN o7 (by rw [List.length_append, recB_len]; have := recLen_pos r; omega)
    have orQ : (Value.slice ba bn bc).ownBlock = some Q ∨ w6.heap.size ≤ Q := by
      rcases ob7 with h1 | h1
      · exact .inl h1.symm
      · simp only [Value.ownBlock, Option.some.injEq] at h1; exact .inr (by omega)
    have hQL : Q ≠ L := by
      rcases orQ with h1 | h1
      · rintro rfl; exact hnB h1
      · have := lt_of_block k6; omega
    have hRB : (Value.slice ba bn bc).ownBlock ≠ some R := fun e => by
      obtain ⟨cu, hcu⟩ := ownsRow_blk b6 e
      obtain ⟨cv, hcv⟩ := ownsRow_blk s6 (k := R) rfl
      exact blk_ne hcu hcv (by decide) rfl
    have k7 : w7.heap[L]? = some (.cells (lcells D m (.slice ba bn bc) (.slice (some ⟨R, 0, none⟩) (sn + 1) cp)) 82 (0, 0)) := by
      rw [g7.block L (lt_of_block k6) (fun e => hnB e.symm)]; exact k6
    have s7 : w7.ownsRow 0 3 1 (.slice (some ⟨R, 0, none⟩) (sn + 1) cp) (sn + 1) (iv (offs 0 m.recs ++ [bn])) := ownsRow_keep s6 (fun k e => by
      simp only [Value.ownBlock, Option.some.injEq] at e
      subst e
      exact g7.block R (s6.lt R rfl).2 (fun e2 => hRB e2.symm))
    obtain ⟨w8, hw8⟩ : ∃ w8, w7.setCell ⟨L, 2, none⟩ (.slice (some ⟨Q, 0, none⟩) nq cq) = w8 := ⟨_, rfl⟩
    have k8 : w8.heap[L]? = some (.cells (lcells D (m.push r) (.slice (some ⟨Q, 0, none⟩) nq cq) (.slice (some ⟨R, 0, none⟩) (sn + 1) cp)) 82 (0, 0)) := by rw [← hw8]; exact block_setCell k7 _
    have b8 : OwnB w8 0 5 (.slice (some ⟨Q, 0, none⟩) nq cq) (m.push r).bytes := by
      rw [LM.push_bytes]
      exact ownB_same o7 (fun k e => by simp only [Value.ownBlock, Option.some.injEq] at e; subst e; rw [← hw8]; exact block_setCell_ne _ hQL)
    have s8 : w8.ownsRow 0 3 1 (.slice (some ⟨R, 0, none⟩) (sn + 1) cp) (m.push r).recs.length (iv (offs 0 (m.push r).recs)) := by
      rw [LM.push_offs, ← hbn]
      have e9 : (m.push r).recs.length = sn + 1 := by rw [hsn]; show (m.recs ++ [r]).length = _; simp
      rw [e9]
      exact ownsRow_keep s7 (fun k e => by simp only [Value.ownBlock, Option.some.injEq] at e; subst e; rw [← hw8]; exact block_setCell_ne _ hRL)
    have m8 : LMem w8 D L (m.push r) (.slice (some ⟨Q, 0, none⟩) nq cq) (.slice (some ⟨R, 0, none⟩) (sn + 1) cp) := ⟨k8, b8, s8, LM.push_wf HM4.out.wf HOK.out hln⟩
    have ch7 : Chg (lfoot L (.slice ba bn bc) (.slice (some ⟨R, 0, none⟩) (sn + 1) cp)) (lfoot L (.slice (some ⟨Q, 0, none⟩) nq cq) (.slice (some ⟨R, 0, none⟩) (sn + 1) cp)) w6 w7 := chg_app0 g7 (fun k e => .inr (.inl e)) (fun k hk => by
      rcases hk with h1 | h1 | h1
      · exact .inl (.inl h1)
      · simp only [Value.ownBlock, Option.some.injEq] at h1
        subst h1
        rcases orQ with h2 | h2
        · exact .inl (.inr (.inl h2))
        · exact .inr ⟨h2, hQ7⟩
      · exact .inl (.inr (.inr h1)))
    have ch8 : Chg (lfoot L (.slice ba bn bc) (.slice sa sn sc)) (lfoot L (.slice (some ⟨Q, 0, none⟩) nq cq) (.slice (some ⟨R, 0, none⟩) (sn + 1) cp)) w4 w8 := by
      rw [← hw8]
      exact (ch6.trans ch7).trans (chg_setCell _ _ _ (.inl rfl))
    have fin8 : LogAt w8 D L Z F' (dm.append (recB r m.fin)).1 (m.push r) (.slice (some ⟨Q, 0, none⟩) nq cq) (.slice (some ⟨R, 0, none⟩) (sn + 1) cp) := ⟨HD4.out.chgE (chg_uf ch8), m8⟩
    have d6 : w6.cell? ⟨L, 2, none⟩ = some (.slice ba bn bc) := cell_of_row _ _ 2 _ _ _ k6
    have d7 : w7.cell? ⟨L, 2, none⟩ = some (.slice ba bn bc) := cell_of_row _ _ 2 _ _ _ k7
    have f7 : w7.frozen? ⟨L, 2, none⟩ = false := by simp [World.frozen?, k7]
    have HFIN := Lib.hid (And.intro fin8 (HCH.out.trans (chg_ufE ch8)))
    have HR5 := Lib.hid hr5
    have HR7 := Lib.hid hr7
    clear hbn hsn hlg hal hln hsn2 hs4 ho5 hg5 hor5 hlt5 hr5 c2 c3 kA hnS hnB k5 hRL k6 s6 z6 ch5 ch6 b6 r6 hr7 o7 g7 ob7 nl7 hQ7 orQ hQL hRB k7 s7 k8 b8 s8 m8 ch7 ch8 fin8 hL4
    go_upto_region 8 with (fail)
    refine wp_region_U (fun W => W.cell? ⟨L, 2, none⟩ = some (.slice ba bn bc) ∧ W.cell? ⟨L, 3, none⟩ = some (.slice sa sn sc)) [14] (by kernel_rfl) ?_
    refine wpAnyU_take (i := 0) [12, 13, 14] rfl (by as_aux_lemma => kernel_rfl) (by as_aux_lemma => kernel_rfl) (by as_aux_lemma => kernel_rfl) (by as_aux_lemma => kernel_rfl) (by as_aux_lemma => kernel_rfl) (by as_aux_lemma => kernel_rfl) (fun _ _ _ h => h) (Or.inl ⟨by rfl, (by intro W hSW; (try dsimp only at hSW); (try go_split_ands); go_simp <;> with_reducible rfl)⟩) hS0 ?_
    try simp only [Act.put, List.getElem_toArray, List.getElem_cons_succ, List.getElem_cons_zero, List.setIfInBounds_toArray, List.set_cons_zero, List.set_cons_succ]
    refine wpAnyU_take (i := 1) [2, 3, 4, 11, 12, 13, 14] rfl (by as_aux_lemma => kernel_rfl) (by as_aux_lemma => kernel_rfl) (by as_aux_lemma => kernel_rfl) (by as_aux_lemma => kernel_rfl) (by as_aux_lemma => kernel_rfl) (by as_aux_lemma => kernel_rfl) (fun _ _ _ h => h) (Or.inl ⟨by rfl, (by intro W hSW; (try dsimp only at hSW); (try go_split_ands); go_simp <;> with_reducible rfl)⟩) hS0 ?_
    try simp only [Act.put, List.getElem_toArray, List.getElem_cons_succ, List.getElem_cons_zero, List.setIfInBounds_toArray, List.set_cons_zero, List.set_cons_succ]
    refine wpAnyU_take (i := 2) [3, 4, 11, 12, 13, 14] rfl (by as_aux_lemma => kernel_rfl) (by as_aux_lemma => kernel_rfl) (by as_aux_lemma => kernel_rfl) (by as_aux_lemma => kernel_rfl) (by as_aux_lemma => kernel_rfl) (by as_aux_lemma => kernel_rfl) (fun _ _ _ h => h) (Or.inl ⟨by rfl, (by intro W hSW; (try dsimp only at hSW); (try go_split_ands); go_simp <;> with_reducible rfl)⟩) hS0 ?_
    try simp only [Act.put, List.getElem_toArray, List.getElem_cons_succ, List.getElem_cons_zero, List.setIfInBounds_toArray, List.set_cons_zero, List.set_cons_succ]
    refine wpAnyU_take (i := 3) [4, 11, 12, 13, 14] rfl (by as_aux_lemma => kernel_rfl) (by as_aux_lemma => kernel_rfl) (by as_aux_lemma => kernel_rfl) (by as_aux_lemma => kernel_rfl) (by as_aux_lemma => kernel_rfl) (by as_aux_lemma => kernel_rfl) (fun _ _ _ h => h) (Or.inl ⟨by rfl, (by intro W hSW; (try dsimp only at hSW); (try go_split_ands); go_simp <;> with_reducible rfl)⟩) hS0 ?_
    try simp only [Act.put, List.getElem_toArray, List.getElem_cons_succ, List.getElem_cons_zero, List.setIfInBounds_toArray, List.set_cons_zero, List.set_cons_succ]
    refine wpAnyU_take (i := 4) [11, 12, 13, 14] rfl (by as_aux_lemma => kernel_rfl) (by as_aux_lemma => kernel_rfl) (by as_aux_lemma => kernel_rfl) (by as_aux_lemma => kernel_rfl) (by as_aux_lemma => kernel_rfl) (by as_aux_lemma => kernel_rfl) (fun _ _ _ h => h) (Or.inl ⟨by rfl, (by intro W hSW; (try dsimp only at hSW); (try go_split_ands); go_simp <;> with_reducible rfl)⟩) hS0 ?_
    try simp only [Act.put, List.getElem_toArray, List.getElem_cons_succ, List.getElem_cons_zero, List.setIfInBounds_toArray, List.set_cons_zero, List.set_cons_succ]
    refine wpAnyU_take (i := 5) [6, 7, 8, 9, 10, 11, 12, 13, 14] rfl (by as_aux_lemma => kernel_rfl) (by as_aux_lemma => kernel_rfl) (by as_aux_lemma => kernel_rfl) (by as_aux_lemma => kernel_rfl) (by as_aux_lemma => kernel_rfl) (by as_aux_lemma => kernel_rfl) (fun _ _ _ h => h) (Or.inl ⟨by rfl, (by intro W hSW; (try dsimp only at hSW); (try go_split_ands); go_simp <;> with_reducible rfl)⟩) hS0 ?_
    try simp only [Act.put, List.getElem_toArray, List.getElem_cons_succ, List.getElem_cons_zero, List.setIfInBounds_toArray, List.set_cons_zero, List.set_cons_succ]
    refine wpAnyU_take (i := 6) [7, 8, 9, 10, 11, 12, 13, 14] rfl (by as_aux_lemma => kernel_rfl) (by as_aux_lemma => kernel_rfl) (by as_aux_lemma => kernel_rfl) (by as_aux_lemma => kernel_rfl) (by as_aux_lemma => kernel_rfl) (by as_aux_lemma => kernel_rfl) (fun _ _ _ h => h) (Or.inl ⟨by rfl, (by intro W hSW; (try dsimp only at hSW); (try go_split_ands); go_simp <;> with_reducible rfl)⟩) hS0 ?_
    try simp only [Act.put, List.getElem_toArray, List.getElem_cons_succ, List.getElem_cons_zero, List.setIfInBounds_toArray, List.set_cons_zero, List.set_cons_succ]
    refine wpAnyU_take (i := 7) [8, 9, 10, 11, 12, 13, 14] rfl (by as_aux_lemma => kernel_rfl) (by as_aux_lemma => kernel_rfl) (by as_aux_lemma => kernel_rfl) (by as_aux_lemma => kernel_rfl) (by as_aux_lemma => kernel_rfl) (by as_aux_lemma => kernel_rfl) (fun _ _ _ h => h) (Or.inl ⟨by rfl, (by intro W hSW; (try dsimp only at hSW); (try go_split_ands); go_simp <;> with_reducible rfl)⟩) hS0 ?_
    try simp only [Act.put, List.getElem_toArray, List.getElem_cons_succ, List.getElem_cons_zero, List.setIfInBounds_toArray, List.set_cons_zero, List.set_cons_succ]
    refine wpAnyU_take (i := 8) [9, 10, 11, 12, 13, 14] rfl (by as_aux_lemma => kernel_rfl) (by as_aux_lemma => kernel_rfl) (by as_aux_lemma => kernel_rfl) (by as_aux_lemma => kernel_rfl) (by as_aux_lemma => kernel_rfl) (by as_aux_lemma => kernel_rfl) (fun _ _ _ h => h) (Or.inl ⟨by rfl, (by intro W hSW; (try dsimp only at hSW); (try go_split_ands); go_simp <;> with_reducible rfl)⟩) hS0 ?_
    try simp only [Act.put, List.getElem_toArray, List.getElem_cons_succ, List.getElem_cons_zero, List.setIfInBounds_toArray, List.set_cons_zero, List.set_cons_succ]
    refine wpAnyU_take (i := 9) [10, 11, 12, 13, 14] rfl (by as_aux_lemma => kernel_rfl) (by as_aux_lemma => kernel_rfl) (by as_aux_lemma => kernel_rfl) (by as_aux_lemma => kernel_rfl) (by as_aux_lemma => kernel_rfl) (by as_aux_lemma => kernel_rfl) (fun _ _ _ h => h) (Or.inl ⟨by rfl, (by intro W hSW; (try dsimp only at hSW); (try go_split_ands); go_simp <;> with_reducible rfl)⟩) hS0 ?_
    try simp only [Act.put, List.getElem_toArray, List.getElem_cons_succ, List.getElem_cons_zero, List.setIfInBounds_toArray, List.set_cons_zero, List.set_cons_succ]
    refine wpAnyU_one (i := 10) (by kernel_rfl) rfl (fun K hK => ?_)
    go_simp
    refine hK.out _ _ (fun _ => hSA) (fun _ => ?_)
    clear hK K
    try simp only [Act.put, List.getElem_toArray, List.getElem_cons_succ, List.getElem_cons_zero, List.setIfInBounds_toArray, List.set_cons_zero, List.set_cons_succ]
    refine wpAnyU_one (i := 11) (by kernel_rfl) rfl (fun K hK => ?_)
    refine step_append_is rfl rfl HR5.out rfl rfl ?_
    refine hK.out _ _ (fun _ => hS5) (fun _ => ?_)
    clear hK K
    try simp only [Act.put, List.getElem_toArray, List.getElem_cons_succ, List.getElem_cons_zero, List.setIfInBounds_toArray, List.set_cons_zero, List.set_cons_succ]
    refine wpAnyU_take (i := 12) [13, 14] rfl (by as_aux_lemma => kernel_rfl) (by as_aux_lemma => kernel_rfl) (by as_aux_lemma => kernel_rfl) (by as_aux_lemma => kernel_rfl) (by as_aux_lemma => kernel_rfl) (by as_aux_lemma => kernel_rfl) (fun _ _ _ h => h) (Or.inl ⟨by rfl, (by intro W hSW; (try dsimp only at hSW); (try go_split_ands); go_simp <;> with_reducible rfl)⟩) hS5 ?_
    try simp only [Act.put, List.getElem_toArray, List.getElem_cons_succ, List.getElem_cons_zero, List.setIfInBounds_toArray, List.set_cons_zero, List.set_cons_succ]
    refine wpAnyU_take (i := 13) [14] rfl (by as_aux_lemma => kernel_rfl) (by as_aux_lemma => kernel_rfl) (by as_aux_lemma => kernel_rfl) (by as_aux_lemma => kernel_rfl) (by as_aux_lemma => kernel_rfl) (by as_aux_lemma => kernel_rfl) (fun _ _ _ h => h) (Or.inl ⟨by rfl, (by intro W hSW; (try dsimp only at hSW); (try go_split_ands); go_simp <;> with_reducible rfl)⟩) hS5 ?_
    try simp only [Act.put, List.getElem_toArray, List.getElem_cons_succ, List.getElem_cons_zero, List.setIfInBounds_toArray, List.set_cons_zero, List.set_cons_succ]
    refine wpAnyU_one (i := 14) (by kernel_rfl) rfl (fun K hK => ?_)
    go_simp
    refine hK.out _ _ (fun h => absurd h (by decide)) (fun _ => ?_)
    clear hK K
    try simp only [Act.put, List.getElem_toArray, List.getElem_cons_succ, List.getElem_cons_zero, List.setIfInBounds_toArray, List.set_cons_zero, List.set_cons_succ]
    refine wpAnyU_done (by kernel_rfl) ?_ _
    clear hS0 hSA hS5 f5
    go_wp2_with (at_builtin; refine wpList_append_eq rfl rfl HR7.out rfl rfl ?_)
    go_ret2
    exact .inr ⟨HK.out, rfl, F', _, _, HFIN.out.1, HFIN.out.2⟩
  · have hz : (k != 0) = true := by simpa using hk0
    go_wp2
    go_ret2
    exact .inl ⟨by rw [HK.out]; exact hk0, by rw [HK.out]; rfl, F', ⟨HD4.out, HM4.out⟩, HCH.out⟩
end Mun
end

section
/- Contracts of a log: where a record stands. -/
set_option maxRecDepth 100000
set_option linter.unusedVariables false
set_option linter.unusedSimpArgs false
namespace Mun
open Go Go.RowKit
open Go.Proofs

def LM.off (m : LM) (i : Nat) : Nat := lenL (m.recs.take i)

theorem LMem.start {w : World} {D L : Nat} {m : LM} {bv sv : Value} (h : LMem w D L m bv sv) {sa : Option Addr} {sn sc : Nat} (e : sv = .slice sa sn sc) (i : Nat) (hi : i < m.recs.length) :
    ∃ g, sa = some ⟨g, 0, none⟩ ∧ w.cell? ⟨g, i, none⟩ = some (.int .i64 (m.off i : Nat)) := by
  subst e
  rcases h.s.2 with ⟨h0, h1⟩ | ⟨g, cap, cur, h0, h1, h2, h3⟩
  · omega
  · injection h0 with e1 e2 e3
    subst e1
    refine ⟨g, rfl, ?_⟩
    have := h.s.cells (g := g) rfl i (.int .i64 (m.off i : Nat)) (by
      unfold iv
      rw [List.getElem?_map, offs_get _ _ _ hi]
      simp [LM.off])
    simpa [addr_add] using this

/-- what find finds -/
structure Fnd (m : LM) (lsn f : Nat) : Prop where
  le : f ≤ m.recs.length
  lo : ∀ i, i < f → m.base + m.off i < lsn
  hi : ∀ i, f ≤ i → i < m.recs.length → lsn ≤ m.base + m.off i

def FndOut (w : World) (m : LM) (lsn : Nat) (e : Ending) (w' : World) : Prop := ∃ f : Nat, e = .returned (.int .i64 f) ∧ Fnd m lsn f ∧ ∃ k, w' = w.drewN k

/-- no record begins there -/
def NoRec (m : LM) (lsn : Nat) : Prop := ∀ i, i < m.recs.length → m.base + m.off i ≠ lsn

end Mun
end

section
/- Contracts of a log: Read. -/
set_option maxRecDepth 100000
set_option linter.unusedVariables false
set_option linter.unusedSimpArgs false
namespace Mun
open Go Go.RowKit
open Go.Proofs

theorem step_store_is {P : Program} {ops : Array Oper} {o : Oper} {a : Act} {w : World} {K : Act → World → Prop} {Q : Exit → Act → World → Prop} {E : Prop} (hgd : o.guard = none) (ty : TypeId) (x y : Operand) (ho : o.op = .store ty x y)
    (g : Nat) (cells : Array Value) (hx : a.eval x = .pointer (some ⟨g, 0, none⟩)) (hy : a.eval y = .agg cells)
    (t : TypeId) (old : Array Value) (hg : w.heap[g]? = some (.cells old t (0, 0))) (hi : (P.info? ty).map (·.size) = some cells.size)
    (hold : old.size = cells.size) (h1 : cells.all (·.oneCell') = true) (h : K (a.put o.dst undef) (w.setRow g cells)) :
    if Region.wanted o (yielded ops a.tmps) = true then Oper.wp P o a w K Q else E := by
  have hw : Region.wanted o (yielded ops a.tmps) = true := by simp [Region.wanted, hgd]
  rw [if_pos hw]
  exact wp_store_row ty x y ho g cells hx hy t old hg hi hold h1 h

theorem yields_load_row {P : Program} {ops : Array Oper} {S : World → Prop} {o : Oper} {a : Act} (hw : Region.wanted o (yielded ops a.tmps) = true) (ty : TypeId) (x : Operand) (ho : o.op = .load ty x)
    (g : Nat) (hx : a.eval x = .pointer (some ⟨g, 0, none⟩)) (t : TypeId) (cs : Array Value) (fr : Nat × Nat) (d : TypeDesc) (hg : ∀ w, S w → w.heap[g]? = some (.cells cs t fr))
    (hu : P.underlying ty = some d) (hd : (match d with | .struct _ | .array _ _ => true | _ => false) = true) (hi : (P.info? ty).map (·.size) = some cs.size) : YieldsIf P ops S o (.agg cs) a := by
  refine .inl ⟨hw, fun w hS => ?_⟩
  unfold execOp
  simp only [ho, hx, Instr.loadAt, Instr.sureAddr, Sem.run_bind, Sem.run_pure, Result.andThen_ok, run_loadVar_row w g t ty cs fr d (hg w hS) hu hd hi]

def ReadNo (w : World) (k : Int) (e : Ending) (w' : World) : Prop := e = .returned (.tuple #[noR, .int .u64 0, .int .i64 k]) ∧ Below w.heap.size w w'
def ReadYes (w : World) (r : PR) (next : Nat) (e : Ending) (w' : World) : Prop := ∃ x, e = .returned (.tuple #[rval r x, .int .u64 next, .int .i64 0]) ∧ RecAt (OldF w.heap.size) w' r x ∧ Below w.heap.size w w'

section
variable (w : World) (D L : Nat) (m : LM) (bv sv : Value)

end
end Mun
end
