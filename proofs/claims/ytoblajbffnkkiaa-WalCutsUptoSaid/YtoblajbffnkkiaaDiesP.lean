/- WalDies: the law's state; what a crash leaves of its log. -/
import Derived.Test.YtoblajbffnkkiaaRowG
import Derived.Test.YtoblajbffnkkiaaMgD
import Derived.Test.YtoblajbffnkkiaaDiskX
import Derived.Test.YtoblajbffnkkiaaMgF
set_option maxRecDepth 100000
set_option linter.unusedVariables false
set_option linter.unusedSimpArgs false
namespace Mun
open Go Go.RowKit
open Go.Proofs

def prs (ps : List QV) : List PR := ps.map (·.1)
theorem prs_length (ps : List QV) : (prs ps).length = ps.length := by simp [prs]
theorem prs_snoc (ps : List QV) (p : QV) : prs (ps ++ [p]) = prs ps ++ [p.1] := by simp [prs]
theorem prs_get (ps : List QV) (i : Nat) (h : i < ps.length) : (prs ps)[i]'(by rw [prs_length]; exact h) = ps[i].1 := by simp [prs]

/-- a record's cells, in whatever world behind -/
def SixAt (W : World) (g k : Nat) (r : PR) (dv cv : Value) : Prop :=
  W.cell? ⟨g, k, none⟩ = some (.int .i64 r.kind) ∧ W.cell? ⟨g, k + 1, none⟩ = some (.int .u64 r.tx) ∧ W.cell? ⟨g, k + 2, none⟩ = some (.int .u64 r.prev) ∧
      W.cell? ⟨g, k + 3, none⟩ = some (.int .u64 r.next) ∧ W.cell? ⟨g, k + 4, none⟩ = some dv ∧ W.cell? ⟨g, k + 5, none⟩ = some cv

theorem recs_cells {F : Foot} {w : World} {a : Option Addr} {n c : Nat} {l : List QV} (h : RecsAt F w (.slice a n c) l) (i : Nat) (hi : i < l.length) :
    ∃ g off da dn dc ca cn cc, a = some ⟨g, off, none⟩ ∧ g < w.heap.size ∧ l[i].2.dv = .slice da dn dc ∧ l[i].2.cv = .slice ca cn cc ∧
      ∀ W, Below w.heap.size w W → SixAt W g (off + i * 6) l[i].1 (.slice da dn dc) (.slice ca cn cc) := by
  obtain ⟨g, off, c', hv, _, _, _, hg, hc⟩ := h.at_ i hi
  injection hv with e1 e2 e3
  subst e1
  obtain ⟨da, dn, dc, ca, cn, cc, e4, e5, -⟩ := (h.rd _ (List.getElem_mem hi)).open
  refine ⟨g, off, da, dn, dc, ca, cn, cc, rfl, hg, e4, e5, fun W hb => ?_⟩
  obtain ⟨g', off', c'', hv', _, _, _, _, hc'⟩ := (h.below hb).at_ i hi
  injection hv' with e1 e2 e3
  injection e1 with e1
  injection e1 with e6 e7
  subst e6 e7
  have h4 := hc' 4 _ rfl
  have h5 := hc' 5 _ rfl
  rw [e4] at h4
  rw [e5] at h5
  exact ⟨hc' 0 _ rfl, hc' 1 _ rfl, hc' 2 _ rfl, hc' 3 _ rfl, h4, h5⟩

/-- what is left behind a crash: whole records, those that were certain among them, and a torn one -/
theorem dies_left {dm : DM} {recs : List PR} {n0 c : Nat} (hlog : dm.log ++ dm.tail = (encL 1 recs).take n0) (hw : dm.Wf) (hc : lenL (recs.take c) ≤ dm.certain) (hcl : c ≤ recs.length) (ch : Bytes) :
    ∃ j tail, c ≤ j ∧ j ≤ recs.length ∧ (dm.crash ch).log = encL 1 (recs.take j) ++ tail ∧ lenL (recs.take j) ≤ 16777216 ∧
      (tail ≠ [] → ∃ (h : j < recs.length) (k : Nat), k < recLen recs[j] ∧ tail = (recB recs[j] (1 + lenL (recs.take j))).take k) := by
  have e1 : (dm.crash ch).log = (encL 1 recs).take (min (dm.certain + dm.left ch) n0) := by
    show dm.crashLog ch = _
    rw [crashLog_take hw.certain, hlog, List.take_take]
  obtain ⟨j, h1, h2, tail, h3, h4, h5⟩ := encL_take recs 1 (min (dm.certain + dm.left ch) n0)
  have hn0 : dm.certain ≤ n0 := by
    have := congrArg List.length hlog
    rw [List.length_append, List.length_take] at this
    have := hw.certain
    omega
  refine ⟨j, tail, h5 c hcl (by omega), h1, by rw [e1, h3], ?_, h4⟩
  have hcw := DM.crash_wf hw ch
  have h6 := hcw.room
  have h7 := hcw.room24
  rw [e1, h3, List.length_append, encL_length] at h6
  omega

def OpenTail (rs : List PR) (tail : Bytes) (log : Bytes) : Prop :=
  tail ≠ [] → ∀ W v, RdB NoF W v log → Calls Try.prog 11 #[v, .int .i64 (lenL rs : Nat), .int .u64 (1 + lenL rs : Nat)] W (BodyNo W 4)

theorem torn_tail {recs : List PR} {j : Nat} {tail log : Bytes} (hok : ∀ r ∈ recs, RecOk r) (hl : log = encL 1 (recs.take j) ++ tail)
    (ht : tail ≠ [] → ∃ (h : j < recs.length) (k : Nat), k < recLen recs[j] ∧ tail = (recB recs[j] (1 + lenL (recs.take j))).take k) : OpenTail (recs.take j) tail log := by
  intro h W v hv
  obtain ⟨hj, k, hk, rfl⟩ := ht h
  exact body_torn W v log _ recs[j] _ k (encL 1 (recs.take j)) hv hl (encL_length _ _).symm hk (hok _ (List.getElem_mem hj)).big _

theorem openDM_log {dm : DM} {n : Nat} (hd : dm.dead = false) (hf : dm.fuse ≠ 0) (hn : n ≤ dm.log.length) (hc : dm.certain = dm.log.length) :
    (openDM dm n).log = dm.log.take n ∧ (openDM dm n).certain = n ∧ (openDM dm n).mark = dm.mark ∧ (openDM dm n).tail = dm.tail ∧ (openDM dm n).ops ≤ dm.ops + 1 := by
  unfold openDM
  by_cases h : n = dm.log.length
  · rw [if_pos h]
    exact ⟨by rw [h, List.take_length], by rw [hc, h], rfl, rfl, Nat.le_succ _⟩
  · rw [if_neg h, trim_eq hd hf n hn]
    obtain ⟨q1, q2, q3, q4⟩ := spend_same dm
    exact ⟨rfl, rfl, q3, q4, spend_opsU dm⟩

/-- the law's rows and its log, as its loop stands at i -/
structure DiesAt (w : World) (D L i : Nat) (l : List QV) (av kv : Value) (c : Nat) (ps : List QV) (dm : DM) (wr : World) : Prop where
  le : ps.length ≤ i
  mem : ∀ p ∈ ps, p ∈ l
  ok : ∀ r ∈ prs ps, RecOk r
  arow : wr.ownsRow 0 22 1 av ps.length (uv (offs 1 (prs ps)))
  krow : wr.ownsRow 0 26 6 kv ps.length (rv ps)
  own : OwnG w D L dm ⟨1, prs ps, lenL ((prs ps).take c), 0⟩ (rowZ av (rowZ kv NoF)) wr
  cl : c ≤ ps.length
  log : dm.log = encL 1 (prs ps)
  certain : dm.certain = lenL ((prs ps).take c)
  mark : dm.mark = []
  tail : dm.tail = []
  ops : dm.ops ≤ 2 * i

/-- and behind its loop -/
structure DiesEnd (w : World) (D : Nat) (l : List QV) (av kv : Value) (c : Nat) (ps : List QV) (a : Nat) (dm : DM) (wr : World) : Prop where
  mem : ∀ p ∈ ps, p ∈ l
  ok : ∀ r ∈ prs ps, RecOk r
  arow : wr.ownsRow 0 22 1 av a (uv ((offs 1 (prs ps)).take a))
  krow : wr.ownsRow 0 26 6 kv ps.length (rv ps)
  disk : ∃ E F, DiskAt wr D E F dm ∧ ∀ k, F k → w.heap.size ≤ k
  below : Below w.heap.size w wr
  cl : c ≤ a
  al : a ≤ ps.length
  log : ∃ n0, dm.log ++ dm.tail = (encL 1 (prs ps)).take n0
  certain : lenL ((prs ps).take c) ≤ dm.certain
  mark : dm.mark = []
  ops : dm.ops < 4398046511104

section
variable {w wr w' : World} {D L i c : Nat} {l ps : List QV} {av kv : Value} {dm : DM}

theorem DiesAt.end_ (h : DiesAt w D L i l av kv c ps dm wr) (hi : i ≤ 1048576) : DiesEnd w D l av kv c ps ps.length dm wr := by
  obtain ⟨F, bv, sv, h1, h2, h3, h4⟩ := h.own
  refine ⟨h.mem, h.ok, ?_, h.krow, ⟨_, F, h1.disk, fun k hk => h3 k (.inl hk)⟩, h2, h.cl, Nat.le_refl _, ⟨lenL (prs ps), ?_⟩, by rw [h.certain]; exact Nat.le_refl _, h.mark, by have := h.ops; omega⟩
  · rw [List.take_of_length_le (by rw [offs_length, prs_length]; exact Nat.le_refl _)]; exact h.arow
  · rw [h.log, h.tail, List.append_nil, List.take_of_length_le (by rw [encL_length]; exact Nat.le_refl _)]

theorem DiesAt.step (h : DiesAt w D L i l av kv c ps dm wr) (ho : OwnG w D L dm ⟨1, prs ps, lenL ((prs ps).take c), 0⟩ (rowZ av (rowZ kv NoF)) w') (hk : KeepZ (rowZ av (rowZ kv NoF)) wr w') : DiesAt w D L (i + 1) l av kv c ps dm w' :=
  ⟨Nat.le_succ_of_le h.le, h.mem, h.ok, ownsRow_keep h.arow (fun k e => hk.2 k (.inl e)), ownsRow_keep h.krow (fun k e => hk.2 k (.inr (.inl e))), ho, h.cl, h.log, h.certain, h.mark, h.tail, by have := h.ops; omega⟩

theorem rowZ_comm (a b : Value) (Y : Foot) : rowZ a (rowZ b Y) = rowZ b (rowZ a Y) := by
  funext k
  show (a.ownBlock = some k ∨ b.ownBlock = some k ∨ Y k) = (b.ownBlock = some k ∨ a.ownBlock = some k ∨ Y k)
  rw [← or_assoc, ← or_assoc, or_comm (a := a.ownBlock = some k)]

theorem rows_apart {W : World} {av kv : Value} {na nk : Nat} {xa xk : List Value} (ha : W.ownsRow 0 22 1 av na xa) (hk : W.ownsRow 0 26 6 kv nk xk) (k : Nat) (h1 : av.ownBlock = some k) (h2 : kv.ownBlock = some k) : False := by
  obtain ⟨c, hc⟩ := ownsRow_blk ha h1
  obtain ⟨c', hc'⟩ := ownsRow_blk hk h2
  exact blk_ne hc hc' (by decide) rfl

theorem push_k {kv' : Value} {m : LM} {na nk : Nat} {xa xk : List Value} (ho : OwnG w D L dm m (rowZ av (rowZ kv NoF)) wr) (ha : wr.ownsRow 0 22 1 av na xa) (hk : wr.ownsRow 0 26 6 kv nk xk)
    (hc : ∀ Y, Chg (rowZ kv Y) (rowZ kv' Y) wr w') : OwnG w D L dm m (rowZ av (rowZ kv' NoF)) w' ∧ w'.ownsRow 0 22 1 av na xa := by
  have h1 := hc (rowZ av NoF)
  rw [rowZ_comm kv, rowZ_comm kv'] at h1
  exact ⟨ho.row h1, ownsRow_keep ha (fun k e => (hc NoF).block k (ha.lt k e).2 (fun h => h.elim (fun h => rows_apart ha hk k e h) (noF k)))⟩

theorem push_a {av' : Value} {m : LM} {na nk : Nat} {xa xk : List Value} (ho : OwnG w D L dm m (rowZ av (rowZ kv NoF)) wr) (ha : wr.ownsRow 0 22 1 av na xa) (hk : wr.ownsRow 0 26 6 kv nk xk)
    (hc : ∀ Y, Chg (rowZ av Y) (rowZ av' Y) wr w') : OwnG w D L dm m (rowZ av' (rowZ kv NoF)) w' ∧ w'.ownsRow 0 26 6 kv nk xk :=
  ⟨ho.row (hc _), ownsRow_keep hk (fun k e => (hc NoF).block k (hk.lt k e).2 (fun h => h.elim (fun h => rows_apart ha hk k h e) (noF k)))⟩

theorem DiesAt.push {p : QV} {av' kv' : Value} {dm' : DM} (h : DiesAt w D L i l av kv c ps dm wr) (hp : p ∈ l) (hok : RecOk p.1)
    (ho : OwnG w D L dm' (LM.push ⟨1, prs ps, lenL ((prs ps).take c), 0⟩ p.1) (rowZ av' (rowZ kv' NoF)) w')
    (ha : w'.ownsRow 0 22 1 av' (offs 1 (prs ps) ++ [1 + lenL (prs ps)]).length (uv (offs 1 (prs ps) ++ [1 + lenL (prs ps)]))) (hk : w'.ownsRow 0 26 6 kv' (ps ++ [p]).length (rv (ps ++ [p])))
    (h1 : dm'.log = dm.log ++ recB p.1 (1 + lenL (prs ps))) (h2 : dm'.certain = dm.certain) (h3 : dm'.mark = dm.mark) (h4 : dm'.tail = dm.tail) (h5 : dm'.ops ≤ dm.ops + 1) : DiesAt w D L (i + 1) l av' kv' c (ps ++ [p]) dm' w' := by
  have hcl := h.cl
  have e1 : (prs (ps ++ [p])).take c = (prs ps).take c := by rw [prs_snoc, List.take_append_of_le_length (by rw [prs_length]; exact hcl)]
  refine ⟨by have := h.le; simp; omega, fun q hq => ?_, fun r hr => ?_, ?_, hk, ?_, by simp; omega, ?_, by rw [h2, h.certain, e1], by rw [h3, h.mark], by rw [h4, h.tail], by have := h.ops; omega⟩
  · rcases List.mem_append.1 hq with h6 | h6
    · exact h.mem q h6
    · rw [List.mem_singleton] at h6; subst h6; exact hp
  · rw [prs_snoc] at hr
    rcases List.mem_append.1 hr with h6 | h6
    · exact h.ok r h6
    · rw [List.mem_singleton] at h6; subst h6; exact hok
  · have e2 : offs 1 (prs (ps ++ [p])) = offs 1 (prs ps) ++ [1 + lenL (prs ps)] := by rw [prs_snoc, offs_snoc]
    have e3 : (ps ++ [p]).length = (offs 1 (prs ps) ++ [1 + lenL (prs ps)]).length := by simp [offs_length, prs_length]
    rw [e2, e3]
    exact ha
  · have e2 : LM.push ⟨1, prs ps, lenL ((prs ps).take c), 0⟩ p.1 = (⟨1, prs (ps ++ [p]), lenL ((prs (ps ++ [p])).take c), 0⟩ : LM) := by rw [e1, prs_snoc]; rfl
    rw [← e2]; exact ho
  · rw [h1, h.log, prs_snoc, encL_snoc]

theorem DiesAt.force {dm' : DM} (h : DiesAt w D L i l av kv c ps dm wr) (ho : OwnG w D L dm' (LM.done ⟨1, prs ps, lenL ((prs ps).take c), 0⟩) (rowZ av (rowZ kv NoF)) w') (hk : KeepZ (rowZ av (rowZ kv NoF)) wr w')
    (h1 : dm'.log = dm.log) (h2 : dm'.certain = dm.log.length) (h3 : dm'.mark = dm.mark) (h4 : dm'.tail = dm.tail) (h5 : dm'.ops ≤ 2 * i) : DiesAt w D L i l av kv ps.length ps dm' w' := by
  have e1 : (prs ps).take ps.length = prs ps := by rw [List.take_of_length_le (by rw [prs_length]; exact Nat.le_refl _)]
  refine ⟨h.le, h.mem, h.ok, ownsRow_keep h.arow (fun k e => hk.2 k (.inl e)), ownsRow_keep h.krow (fun k e => hk.2 k (.inr (.inl e))), ?_, Nat.le_refl _, by rw [h1, h.log], by rw [h2, h.log, encL_length, e1], by rw [h3, h.mark], by rw [h4, h.tail], h5⟩
  have e2 : LM.done ⟨1, prs ps, lenL ((prs ps).take c), 0⟩ = (⟨1, prs ps, lenL ((prs ps).take ps.length), 0⟩ : LM) := by rw [e1]; rfl
  rw [← e2]; exact ho

/-- it died at a Force -/
theorem DiesAt.forceNo {dm' : DM} {m : LM} (h : DiesAt w D L i l av kv c ps dm wr) (ho : OwnG w D L dm' m (rowZ av (rowZ kv NoF)) w') (hk : KeepZ (rowZ av (rowZ kv NoF)) wr w')
    (h1 : dm'.log = dm.log) (h2 : dm'.certain = dm.certain) (h3 : dm'.mark = dm.mark) (h4 : dm'.tail = dm.tail) (h5 : dm'.ops < 4398046511104) : DiesEnd w D l av kv c ps ps.length dm' w' := by
  obtain ⟨F, bv, sv, o1, o2, o3, o4⟩ := ho
  refine ⟨h.mem, h.ok, ?_, ownsRow_keep h.krow (fun k e => hk.2 k (.inr (.inl e))), ⟨_, F, o1.disk, fun k hk => o3 k (.inl hk)⟩, o2, h.cl, Nat.le_refl _, ⟨lenL (prs ps), ?_⟩, by rw [h2, h.certain]; exact Nat.le_refl _, by rw [h3, h.mark], h5⟩
  · rw [List.take_of_length_le (by rw [offs_length, prs_length]; exact Nat.le_refl _)]; exact ownsRow_keep h.arow (fun k e => hk.2 k (.inl e))
  · rw [h1, h.log, h4, h.tail, List.append_nil, List.take_of_length_le (by rw [encL_length]; exact Nat.le_refl _)]

/-- it died at an Append -/
theorem DiesAt.appNo {p : QV} {kv' : Value} {dm' : DM} {m : LM} (h : DiesAt w D L i l av kv c ps dm wr) (hp : p ∈ l) (hok : RecOk p.1)
    (ho : OwnG w D L dm' m (rowZ av (rowZ kv' NoF)) w') (ha : w'.ownsRow 0 22 1 av ps.length (uv (offs 1 (prs ps)))) (hk : w'.ownsRow 0 26 6 kv' (ps ++ [p]).length (rv (ps ++ [p])))
    (h1 : dm'.log = dm.log) (h2 : dm'.certain = dm.certain) (h3 : dm'.mark = dm.mark) (h4 : dm'.tail = dm.tail ∨ dm'.tail = recB p.1 (1 + lenL (prs ps))) (h5 : dm'.ops < 4398046511104) : DiesEnd w D l av kv' c (ps ++ [p]) ps.length dm' w' := by
  obtain ⟨F, bv, sv, o1, o2, o3, o4⟩ := ho
  have hcl := h.cl
  refine ⟨fun q hq => ?_, fun r hr => ?_, ?_, hk, ⟨_, F, o1.disk, fun k hk => o3 k (.inl hk)⟩, o2, h.cl, by simp, ?_, ?_, by rw [h3, h.mark], h5⟩
  · rcases List.mem_append.1 hq with h6 | h6
    · exact h.mem q h6
    · rw [List.mem_singleton] at h6; subst h6; exact hp
  · rw [prs_snoc] at hr
    rcases List.mem_append.1 hr with h6 | h6
    · exact h.ok r h6
    · rw [List.mem_singleton] at h6; subst h6; exact hok
  · rw [prs_snoc, offs_snoc, List.take_append_of_le_length (by rw [offs_length, prs_length]; exact Nat.le_refl _), List.take_of_length_le (by rw [offs_length, prs_length]; exact Nat.le_refl _)]
    exact ha
  · rw [h1, h.log, prs_snoc, encL_snoc]
    rcases h4 with h4 | h4
    · exact ⟨lenL (prs ps), by rw [h4, h.tail, List.append_nil, List.take_left' (encL_length _ _)]⟩
    · exact ⟨lenL (prs ps) + recLen p.1, by rw [h4, List.take_of_length_le]; rw [List.length_append, encL_length, recB_len]; exact Nat.le_refl _⟩
  · rw [prs_snoc, List.take_append_of_le_length (by rw [prs_length]; exact hcl), h2, h.certain]; exact Nat.le_refl _
end
end Mun
