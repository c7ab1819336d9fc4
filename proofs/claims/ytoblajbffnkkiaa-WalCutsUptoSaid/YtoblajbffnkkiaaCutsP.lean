/- WalCuts: the law's state. -/
import Derived.Test.YtoblajbffnkkiaaDiesP
import Derived.Test.YtoblajbffnkkiaaOwnX
import Derived.Test.YtoblajbffnkkiaaMgG
import Derived.Test.YtoblajbffnkkiaaLogL
set_option maxRecDepth 100000
set_option linter.unusedVariables false
set_option linter.unusedSimpArgs false
namespace Mun
open Go Go.RowKit
open Go.Proofs

/-- the law's rows and its log, as its loop stands at i -/
structure CutsAt (w : World) (D L i : Nat) (l : List QV) (av kv : Value) (ps : List QV) (dm : DM) (wr : World) : Prop where
  le : ps.length ≤ i
  mem : ∀ p ∈ ps, p ∈ l
  ok : ∀ r ∈ prs ps, RecOk r
  arow : wr.ownsRow 0 22 1 av ps.length (uv (offs 1 (prs ps)))
  krow : wr.ownsRow 0 26 6 kv ps.length (rv ps)
  own : OwnG w D L dm ⟨1, prs ps, 0, 0⟩ (rowZ av (rowZ kv NoF)) wr
  live : Live dm
  log : dm.log = encL 1 (prs ps)
  certain : dm.certain = 0
  mark : dm.mark = []
  tail : dm.tail = []
  ops : dm.ops ≤ i

/-- behind the cut: the records from k on -/
structure CutsTwo (w : World) (D L k ob fo : Nat) (l : List QV) (av kv : Value) (ps : List QV) (dm : DM) (wr : World) : Prop where
  kl : k < ps.length
  mem : ∀ p ∈ ps, p ∈ l
  ok : ∀ r ∈ prs ps, RecOk r
  arow : wr.ownsRow 0 22 1 av ps.length (uv (offs 1 (prs ps)))
  krow : wr.ownsRow 0 26 6 kv ps.length (rv ps)
  base : 1 + lenL ((prs ps).take k) = ob
  own : OwnG w D L dm ⟨ob, (prs ps).drop k, fo, 0⟩ (rowZ av (rowZ kv NoF)) wr
  live : Live dm
  log : dm.log = encL ob ((prs ps).drop k)
  mark : dm.mark = markB ob 0
  tail : dm.tail = []
  ops : dm.ops < 4398046511104

section
variable {w wr w' : World} {D L i k ob fo : Nat} {l ps : List QV} {av kv av' kv' : Value} {dm dm' : DM} {p : QV}

theorem CutsAt.step (h : CutsAt w D L i l av kv ps dm wr) (ho : OwnG w D L dm ⟨1, prs ps, 0, 0⟩ (rowZ av (rowZ kv NoF)) w') (hk : KeepZ (rowZ av (rowZ kv NoF)) wr w') : CutsAt w D L (i + 1) l av kv ps dm w' :=
  ⟨Nat.le_succ_of_le h.le, h.mem, h.ok, ownsRow_keep h.arow (fun k e => hk.2 k (.inl e)), ownsRow_keep h.krow (fun k e => hk.2 k (.inr (.inl e))), ho, h.live, h.log, h.certain, h.mark, h.tail, Nat.le_succ_of_le h.ops⟩

theorem mem_snoc {ps : List QV} {p : QV} {l : List QV} (h : ∀ q ∈ ps, q ∈ l) (hp : p ∈ l) : ∀ q ∈ ps ++ [p], q ∈ l := fun q hq => by
  rcases List.mem_append.1 hq with h6 | h6
  · exact h q h6
  · rw [List.mem_singleton] at h6; subst h6; exact hp
theorem ok_snoc {ps : List QV} {p : QV} (h : ∀ r ∈ prs ps, RecOk r) (hp : RecOk p.1) : ∀ r ∈ prs (ps ++ [p]), RecOk r := fun r hr => by
  rw [prs_snoc] at hr
  rcases List.mem_append.1 hr with h6 | h6
  · exact h r h6
  · rw [List.mem_singleton] at h6; subst h6; exact hp
theorem arow_snoc {ps : List QV} {p : QV} (ha : w'.ownsRow 0 22 1 av' (offs 1 (prs ps) ++ [1 + lenL (prs ps)]).length (uv (offs 1 (prs ps) ++ [1 + lenL (prs ps)]))) :
    w'.ownsRow 0 22 1 av' (ps ++ [p]).length (uv (offs 1 (prs (ps ++ [p])))) := by
  have e2 : offs 1 (prs (ps ++ [p])) = offs 1 (prs ps) ++ [1 + lenL (prs ps)] := by rw [prs_snoc, offs_snoc]
  have e3 : (ps ++ [p]).length = (offs 1 (prs ps) ++ [1 + lenL (prs ps)]).length := by simp [offs_length, prs_length]
  rw [e2, e3]
  exact ha

theorem CutsAt.push (h : CutsAt w D L i l av kv ps dm wr) (hp : p ∈ l) (hok : RecOk p.1) (hap : dm.append (recB p.1 (1 + lenL (prs ps))) = (dm', 0))
    (ho : OwnG w D L dm' (LM.push ⟨1, prs ps, 0, 0⟩ p.1) (rowZ av' (rowZ kv' NoF)) w')
    (ha : w'.ownsRow 0 22 1 av' (offs 1 (prs ps) ++ [1 + lenL (prs ps)]).length (uv (offs 1 (prs ps) ++ [1 + lenL (prs ps)]))) (hk : w'.ownsRow 0 26 6 kv' (ps ++ [p]).length (rv (ps ++ [p]))) :
    CutsAt w D L (i + 1) l av' kv' (ps ++ [p]) dm' w' := by
  rw [live_append h.live] at hap
  split at hap
  · simp at hap
  · simp only [Prod.mk.injEq, and_true] at hap
    subst hap
    refine ⟨by have := h.le; simp; omega, mem_snoc h.mem hp, ok_snoc h.ok hok, arow_snoc ha, hk, ?_, h.live, ?_, h.certain, h.mark, h.tail, Nat.succ_le_succ h.ops⟩
    · rw [prs_snoc]; exact ho
    · show dm.log ++ _ = _
      rw [h.log, prs_snoc, encL_snoc]

/-- a refused record: the device stays -/
theorem live_app_no {b : Bytes} {k : Int} (h : Live dm) (hap : dm.append b = (dm', k)) (hk : k ≠ 0) : dm' = dm ∧ k = 7 := by
  rw [live_append h] at hap
  split at hap
  · simp only [Prod.mk.injEq] at hap; exact ⟨hap.1.symm, hap.2.symm⟩
  · simp only [Prod.mk.injEq] at hap; exact absurd hap.2.symm hk

/-- forced and cut -/
theorem CutsAt.two {dm2 dm3 : DM} {m3 : LM} (h : CutsAt w D L i l av kv ps dm wr) (hi : i ≤ 1048576) (hk : k < ps.length) (hob : 1 + lenL ((prs ps).take k) = ob)
    (h2 : dm.force = (dm2, 0)) (h3 : dm2.cut (lenL ((prs ps).take k)) (markB ob 0) = (dm3, 0)) (hm3 : m3 = (LM.done ⟨1, prs ps, 0, 0⟩).cut k)
    (ho : OwnG w D L dm3 m3 (rowZ av (rowZ kv NoF)) w') (hkz : KeepZ (rowZ av (rowZ kv NoF)) wr w') : CutsTwo w D L k ob (lenL (prs ps) - lenL ((prs ps).take k)) l av kv ps dm3 w' := by
  rw [live_force h.live] at h2
  simp only [Prod.mk.injEq, and_true] at h2
  subst h2
  have hc : lenL ((prs ps).take k) ≤ dm.log.length := by rw [h.log, encL_length]; exact lenL_take_le _ _
  rw [live_cut (dm := { dm with ops := dm.ops + 1, certain := dm.log.length }) ⟨h.live.1, h.live.2⟩ hc (by simp [markB, leBytes_length])] at h3
  simp only [Prod.mk.injEq, and_true] at h3
  subst h3
  have e : m3 = ⟨ob, (prs ps).drop k, lenL (prs ps) - lenL ((prs ps).take k), 0⟩ := by rw [hm3, ← hob]; rfl
  subst e
  refine ⟨hk, h.mem, h.ok, ownsRow_keep h.arow (fun k e => hkz.2 k (.inl e)), ownsRow_keep h.krow (fun k e => hkz.2 k (.inr (.inl e))), hob, ho, ⟨h.live.1, h.live.2⟩, ?_, rfl, h.tail, ?_⟩
  · have := LM.cut_bytes ⟨1, prs ps, 0, 0⟩ k
    rw [← hob]
    show dm.log.drop _ = _
    rw [h.log]
    exact this.symm
  · show dm.ops + 1 + 1 < _
    have := h.ops
    omega

theorem lenL_drop_take (rs : List PR) (k : Nat) : lenL rs = lenL (rs.take k) + lenL (rs.drop k) := by
  have h := lenL_append (rs.take k) (rs.drop k)
  rw [List.take_append_drop] at h
  exact h

theorem CutsTwo.fin (h : CutsTwo w D L k ob fo l av kv ps dm wr) : LM.fin ⟨ob, (prs ps).drop k, fo, 0⟩ = 1 + lenL (prs ps) := by
  show ob + lenL ((prs ps).drop k) = _
  have := lenL_drop_take (prs ps) k
  have := h.base
  omega

theorem CutsTwo.keep (h : CutsTwo w D L k ob fo l av kv ps dm wr) (ho : OwnG w D L dm ⟨ob, (prs ps).drop k, fo, 0⟩ (rowZ av (rowZ kv NoF)) w') (hk : KeepZ (rowZ av (rowZ kv NoF)) wr w') : CutsTwo w D L k ob fo l av kv ps dm w' :=
  ⟨h.kl, h.mem, h.ok, ownsRow_keep h.arow (fun k e => hk.2 k (.inl e)), ownsRow_keep h.krow (fun k e => hk.2 k (.inr (.inl e))), h.base, ho, h.live, h.log, h.mark, h.tail, h.ops⟩

theorem CutsTwo.push (h : CutsTwo w D L k ob fo l av kv ps dm wr) (hops : dm.ops ≤ 2097152) (hp : p ∈ l) (hok : RecOk p.1) (hap : dm.append (recB p.1 (1 + lenL (prs ps))) = (dm', 0))
    (ho : OwnG w D L dm' (LM.push ⟨ob, (prs ps).drop k, fo, 0⟩ p.1) (rowZ av' (rowZ kv' NoF)) w')
    (ha : w'.ownsRow 0 22 1 av' (offs 1 (prs ps) ++ [1 + lenL (prs ps)]).length (uv (offs 1 (prs ps) ++ [1 + lenL (prs ps)]))) (hk : w'.ownsRow 0 26 6 kv' (ps ++ [p]).length (rv (ps ++ [p]))) :
    CutsTwo w D L k ob fo l av' kv' (ps ++ [p]) dm' w' := by
  rw [live_append h.live] at hap
  have hkl := h.kl
  have e1 : (prs (ps ++ [p])).drop k = (prs ps).drop k ++ [p.1] := by rw [prs_snoc, List.drop_append_of_le_length (by rw [prs_length]; omega)]
  have e2 : (prs (ps ++ [p])).take k = (prs ps).take k := by rw [prs_snoc, List.take_append_of_le_length (by rw [prs_length]; omega)]
  split at hap
  · simp at hap
  · simp only [Prod.mk.injEq, and_true] at hap
    subst hap
    refine ⟨by simp; omega, mem_snoc h.mem hp, ok_snoc h.ok hok, arow_snoc ha, hk, by rw [e2]; exact h.base, ?_, ⟨h.live.1, h.live.2⟩, ?_, h.mark, h.tail, ?_⟩
    · rw [e1]; exact ho
    · show dm.log ++ _ = _
      rw [h.log, e1, encL_snoc]
      have := h.fin
      unfold LM.fin at this
      simp only at this
      rw [this]
    · show dm.ops + 1 < _; omega

/-- all of it forced -/
theorem CutsTwo.done {m' : LM} (h : CutsTwo w D L k ob fo l av kv ps dm wr) (hops : dm.ops ≤ 2097153) (h2 : dm.force = (dm', 0)) (hm : m' = LM.done ⟨ob, (prs ps).drop k, fo, 0⟩)
    (ho : OwnG w D L dm' m' (rowZ av (rowZ kv NoF)) w') (hkz : KeepZ (rowZ av (rowZ kv NoF)) wr w') :
    CutsTwo w D L k ob (lenL ((prs ps).drop k)) l av kv ps dm' w' ∧ dm'.certain = dm'.log.length := by
  rw [live_force h.live] at h2
  simp only [Prod.mk.injEq, and_true] at h2
  subst h2
  subst hm
  exact ⟨⟨h.kl, h.mem, h.ok, ownsRow_keep h.arow (fun k e => hkz.2 k (.inl e)), ownsRow_keep h.krow (fun k e => hkz.2 k (.inr (.inl e))), h.base, ho, ⟨h.live.1, h.live.2⟩, h.log, h.mark, h.tail, by show dm.ops + 1 < _; omega⟩, rfl⟩

/-- a crash leaves all of it -/
theorem CutsTwo.left (h : CutsTwo w D L k ob fo l av kv ps dm wr) (hc : dm.certain = dm.log.length) (ch : Bytes) : (dm.crash ch).log = encL ob ((prs ps).drop k) ++ [] := by
  show dm.crashLog ch = _
  rw [crashLog_all hc h.tail, h.log, List.append_nil]

theorem CutsAt.same (h : CutsAt w D L i l av kv ps dm wr) (ho : OwnG w D L dm ⟨1, prs ps, 0, 0⟩ (rowZ av (rowZ kv NoF)) w') (hk : KeepZ (rowZ av (rowZ kv NoF)) wr w') : CutsAt w D L i l av kv ps dm w' :=
  ⟨h.le, h.mem, h.ok, ownsRow_keep h.arow (fun k e => hk.2 k (.inl e)), ownsRow_keep h.krow (fun k e => hk.2 k (.inr (.inl e))), ho, h.live, h.log, h.certain, h.mark, h.tail, h.ops⟩

theorem CutsAt.toForce (h : CutsAt w D L i l av kv ps dm wr) (hi : i ≤ 1048576) {lsn : Nat} (hl : 1 ≤ lsn) :
    Calls Try.prog 18 #[.pointer (some ⟨L, 0, none⟩), .int .u64 lsn] wr fun e w' => e = .returned (.int .i64 0) ∧ KeepZ (rowZ av (rowZ kv NoF)) wr w' ∧ ∃ dm2, dm.force = (dm2, 0) ∧ OwnG w D L dm2 (LM.done ⟨1, prs ps, 0, 0⟩) (rowZ av (rowZ kv NoF)) w' := by
  refine (ownx_force h.own (by have := h.ops; omega) hl).mono ?_
  rintro e w' ⟨k, dm', m', rfl, ho, hk, hf, hc⟩
  have hf0 := live_force h.live
  rw [hf] at hf0
  obtain rfl : k = 0 := (Prod.mk.inj hf0).2
  rcases hc with ⟨h1, -⟩ | ⟨-, rfl⟩
  · exact absurd rfl h1
  · exact ⟨rfl, hk, dm', hf, ho⟩

theorem CutsAt.len24 (h : CutsAt w D L i l av kv ps dm wr) : lenL (prs ps) ≤ 16777216 := h.own.wf.len

theorem CutsAt.toCut {dm2 : DM} (h : CutsAt w D L i l av kv ps dm wr) (hi : i ≤ 1048576) (hk : k < ps.length) (hob : 1 + lenL ((prs ps).take k) = ob) (hkz : KeepZ (rowZ av (rowZ kv NoF)) wr w') (h2 : dm.force = (dm2, 0))
    (ho : OwnG w D L dm2 (LM.done ⟨1, prs ps, 0, 0⟩) (rowZ av (rowZ kv NoF)) w') :
    Calls Try.prog 24 #[.pointer (some ⟨L, 0, none⟩), .int .u64 ob] w' fun e w'' => e = .returned (.int .i64 0) ∧ ∃ dm3, CutsTwo w D L k ob (lenL (prs ps) - lenL ((prs ps).take k)) l av kv ps dm3 w'' ∧ dm3.ops ≤ 1048578 := by
  have hd2 : dm2 = { dm with ops := dm.ops + 1, certain := dm.log.length } := by
    rw [live_force h.live] at h2
    exact (Prod.mk.inj h2).1.symm
  have hl24 := h.len24
  have hle := lenL_take_le (prs ps) k
  have hlv : Live dm2 := by rw [hd2]; exact ⟨h.live.1, h.live.2⟩
  have hcn : lenL ((prs ps).take k) ≤ dm2.certain := by rw [hd2]; show _ ≤ dm.log.length; rw [h.log, encL_length]; exact hle
  have hop2 : dm2.ops ≤ 1048577 := by rw [hd2]; show dm.ops + 1 ≤ _; have := h.ops; omega
  refine (ownx_cut (i := k) (lsn := ob) ho hob (fun F bv sv hlg => l_cut_has0 w' D L F dm2 _ bv sv k hlg (by omega) (by show k < (prs ps).length; rw [prs_length]; exact hk) hle rfl (by show 1 + lenL ((prs ps).take k) < _; omega))).mono ?_
  rintro e w'' ⟨kk, dm3, m3, rfl, ho3, hk3, hcut, hc⟩
  have hcut' : dm2.cut (lenL ((prs ps).take k) : Nat) (markB ob 0) = (dm3, kk) := by rw [← hob]; exact hcut
  have h3 := live_cut hlv hcn (b := markB ob 0) (by simp [markB, leBytes_length])
  rw [hcut'] at h3
  obtain ⟨e3, rfl⟩ := Prod.mk.inj h3
  rcases hc with ⟨h1, -⟩ | ⟨-, rfl⟩
  · exact absurd rfl h1
  · exact ⟨rfl, dm3, h.two hi hk hob h2 hcut' rfl ho3 (hkz.trans hk3), by rw [e3]; show dm2.ops + 1 ≤ _; omega⟩

/-- a cut of a log without records -/
theorem CutsAt.toCut0 (h : CutsAt w D L i l av kv [] dm wr) (hi : i ≤ 1048576) :
    Calls Try.prog 24 #[.pointer (some ⟨L, 0, none⟩), .int .u64 1] wr fun e w'' => e = .returned (.int .i64 0) ∧ ∃ dm3, OwnG w D L dm3 ⟨1, [], 0, 0⟩ (rowZ av (rowZ kv NoF)) w'' := by
  refine (ownx_cut (i := 0) (lsn := 1) h.own rfl (fun F bv sv hlg => l_cut_end0 wr D L F dm _ bv sv 0 hlg (by have := h.ops; omega) rfl (Nat.le_refl _) rfl (by show 1 + 0 < _; decide))).mono ?_
  rintro e w'' ⟨kk, dm3, m3, rfl, ho3, hk3, hcut, hc⟩
  have hcut' : dm.cut (0 : Nat) (markB 1 0) = (dm3, kk) := hcut
  have h3 := live_cut h.live (n := 0) (Nat.zero_le _) (b := markB 1 0) (by simp [markB, leBytes_length])
  rw [hcut'] at h3
  obtain ⟨e3, rfl⟩ := Prod.mk.inj h3
  rcases hc with ⟨h1, -⟩ | ⟨-, rfl⟩
  · exact absurd rfl h1
  · exact ⟨rfl, dm3, ho3⟩

/-- a cut of what is not certain is refused -/
theorem CutsAt.noCut (h : CutsAt w D L i l av kv ps dm wr) (hk : k < ps.length) (hk0 : 0 < k) (hob : 1 + lenL ((prs ps).take k) = ob) :
    Calls Try.prog 24 #[.pointer (some ⟨L, 0, none⟩), .int .u64 ob] wr fun e w'' => e = .returned (.int .i64 1) ∧ CutsAt w D L i l av kv ps dm w'' := by
  subst hob
  refine (ownx_quiet h.own (fun bv sv hm => l_cut_late hm k (by show k < (prs ps).length; rw [prs_length]; exact hk) (by
    have := lenL_take_lt (prs ps) hk0 (by rw [prs_length]; omega)
    show 0 < lenL ((prs ps).take k)
    omega))).mono ?_
  rintro e w'' ⟨rfl, ho, hkz⟩
  exact ⟨rfl, h.same ho hkz⟩

def TwoApp (w : World) (D L k ob fo : Nat) (l : List QV) (av kv : Value) (ps : List QV) (dm : DM) (p : QV) (wr : World) (e : Ending) (w' : World) : Prop :=
  ∃ (n : Nat) (kk : Int), e = .returned (.tuple #[.int .u64 n, .int .i64 kk]) ∧ (((kk = 1 ∨ kk = 2 ∨ kk = 7) ∧ CutsTwo w D L k ob fo l av kv ps dm w') ∨
    (kk = 0 ∧ n = 1 + lenL (prs ps) ∧ RecOk p.1 ∧ KeepZ (rowZ av (rowZ kv NoF)) wr w' ∧ ∃ dm', dm.append (recB p.1 (1 + lenL (prs ps))) = (dm', 0) ∧ dm'.ops = dm.ops + 1 ∧ OwnG w D L dm' (LM.push ⟨ob, (prs ps).drop k, fo, 0⟩ p.1) (rowZ av (rowZ kv NoF)) w'))

theorem CutsTwo.toApp {G : Foot} (h : CutsTwo w D L k ob fo l av kv ps dm wr) (hr : RecAt G wr p.1 p.2) (hsz : szR p.1 ≤ 4194304) :
    Calls Try.prog 16 #[.pointer (some ⟨L, 0, none⟩), rval p.1 p.2] wr (TwoApp w D L k ob fo l av kv ps dm p wr) := by
  refine (ownx_app h.own hr hsz h.ops (fun _ => h.log)).mono ?_
  rintro e w' ⟨n, kk, dm', m', rfl, ho, hkz, hc⟩
  refine ⟨n, kk, rfl, ?_⟩
  rcases hc with ⟨h1, rfl, rfl, rfl⟩ | ⟨hok, hap, hc⟩
  · refine .inl ⟨?_, h.keep ho hkz⟩
    rcases h1 with ⟨rfl, -⟩ | ⟨rfl, -⟩
    · exact .inl rfl
    · exact .inr (.inl rfl)
  · rw [h.fin] at hap hc
    rcases hc with ⟨h1, rfl, rfl⟩ | ⟨rfl, rfl, rfl⟩
    · obtain ⟨rfl, rfl⟩ := live_app_no h.live hap h1
      exact .inl ⟨.inr (.inr rfl), h.keep ho hkz⟩
    · refine .inr ⟨rfl, rfl, hok, hkz, dm', hap, ?_, ho⟩
      rw [live_append h.live] at hap
      split at hap
      · simp at hap
      · simp only [Prod.mk.injEq, and_true] at hap; subst hap; rfl

theorem CutsTwo.toForce (h : CutsTwo w D L k ob fo l av kv ps dm wr) (hops : dm.ops ≤ 2097153) :
    Calls Try.prog 18 #[.pointer (some ⟨L, 0, none⟩), .int .u64 (1 + lenL (prs ps) : Nat)] wr fun e w' => e = .returned (.int .i64 0) ∧ ∃ dm', CutsTwo w D L k ob (lenL ((prs ps).drop k)) l av kv ps dm' w' ∧ dm'.certain = dm'.log.length := by
  have hwf := h.own.wf
  have hfo : fo ≤ lenL ((prs ps).drop k) := hwf.forced
  have hl := lenL_drop_take (prs ps) k
  have hb := h.base
  refine (ownx_force (lsn := 1 + lenL (prs ps)) h.own h.ops (by show ob + fo ≤ _; omega)).mono ?_
  rintro e w' ⟨kk, dm', m', rfl, ho, hk, hf, hc⟩
  have hf0 := live_force h.live
  rw [hf] at hf0
  obtain rfl : kk = 0 := (Prod.mk.inj hf0).2
  rcases hc with ⟨h1, -⟩ | ⟨-, rfl⟩
  · exact absurd rfl h1
  · exact ⟨rfl, dm', h.done hops hf rfl ho hk⟩

theorem two_off (rs : List PR) (k j : Nat) : lenL (rs.take (k + j)) = lenL (rs.take k) + lenL ((rs.drop k).take j) := by rw [List.take_add, lenL_append]

/-- cells of a row of LSNs -/
theorem row_u64 {W : World} {aa : Option Addr} {n ac : Nat} {xs : List Nat} (h : W.ownsRow 0 22 1 (.slice aa n ac) n (uv xs)) (hn : 0 < n) :
    ∃ ag ao, aa = some ⟨ag, ao, none⟩ ∧ ∀ W' : World, W'.ownsRow 0 22 1 (.slice aa n ac) n (uv xs) → ∀ (j x : Nat), xs[j]? = some x → W'.cell? ⟨ag, ao + j, none⟩ = some (.int .u64 x) := by
  have h0 : RdV NoF W 1 (.slice aa n ac) n (uv xs) := RdV.of_own h (fun _ _ => noF _)
  obtain ⟨ag, ao, c', hv, -, -, -, -, -⟩ := h0.at_ (by omega)
  injection hv with e3 _ _
  refine ⟨ag, ao, e3, fun W' h' j x hx => ?_⟩
  have h1 : RdV NoF W' 1 (.slice aa n ac) n (uv xs) := RdV.of_own h' (fun _ _ => noF _)
  obtain ⟨ag', ao', c'', hv', -, -, -, -, hcl'⟩ := h1.at_ (by omega)
  injection hv' with e4 _ _
  rw [e3] at e4
  injection e4 with e4
  injection e4 with e4 e5
  subst e4 e5
  refine hcl' j _ ?_
  simp only [uv, List.getElem?_map, hx, Option.map_some]
end
end Mun
