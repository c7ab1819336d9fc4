/- The law of chapter 7, WalPlays: a crash, and what is opened behind it. -/
import Derived.Test.YtoblajbffnkkiaaW7T
import Derived.Test.YtoblajbffnkkiaaDiskX
import Derived.Test.YtoblajbffnkkiaaLogK
import Derived.Test.YtoblajbffnkkiaaLogL
import Derived.Test.YtoblajbffnkkiaaMgF
import Derived.Test.YtoblajbffnkkiaaMgD
set_option maxRecDepth 100000
set_option linter.unusedVariables false
set_option linter.unusedSimpArgs false
namespace Mun
open Go Go.RowKit
open Go.Proofs

theorem rd_far7 {w W : World} {F : Foot} {v : Value} {b : Bytes} (h : RdB NoF w v b) (hb : Below w.heap.size w W) (hF : ∀ k, F k → w.heap.size ≤ k) : RdB F W v b :=
  RdV.keep h (fun k hk _ => hb.block k hk) (fun k hk h => by have := hF k h; omega)

/-- the records that a crash has left -/
def LM.left (m : LM) (j : Nat) : LM := ⟨m.base, m.recs.take j, lenL (m.recs.take j), m.check⟩

/-- what a crash leaves of the device: j whole records, and a torn one -/
structure CrP (size n : Nat) (dm : DM) (m : LM) (j : Nat) (tail : Bytes) : Prop where
  live : Live dm
  log : dm.log = (m.left j).bytes ++ tail
  torn : tail ≠ [] → ∃ (r : PR) (k : Nat), k < recLen r ∧ tail = (recB r (m.base + lenL (m.recs.take j))).take k ∧ (bodyR r).length ≤ 1048576
  pre : dm.log = m.bytes.take dm.log.length
  le : m.forced ≤ dm.log.length ∧ dm.log.length ≤ m.bytes.length
  cert : dm.certain = dm.log.length
  room : dm.room = size
  sz : size ≤ 4095
  tl : dm.tail = []
  mark : (dm.mark = [] ∧ m.base = 1 ∧ m.check = 0) ∨ dm.mark = markB m.base m.check
  ops : dm.ops = 0
  fin : m.base + lenL (m.recs.take j) ≤ 1 + n * 4096
  small : dm.log.length ≤ 4095

theorem Dv.crash {size n : Nat} {dm : DM} {m : LM} (h : Dv size n dm m) (hw : dm.Wf) (hm : m.Wf) (c : Bytes) : ∃ j tail, CrP size n (dm.crash c) m j tail := by
  have hl := h.len hw
  have hlen : m.bytes.length = lenL m.recs := encL_length _ _
  have hlog : (dm.crash c).log = m.bytes.take (m.forced + dm.left c) := by
    show dm.crashLog c = _
    rw [crashLog_take hw.certain, h.tail, List.append_nil, h.log, h.cert]
  have hll : (dm.crash c).log.length = min (m.forced + dm.left c) (lenL m.recs) := by rw [hlog, List.length_take, hlen]
  have hf := hm.forced
  obtain ⟨j, h1, h2, tail, h3, h4, h5⟩ := encL_take m.recs m.base (m.forced + dm.left c)
  refine ⟨j, tail, ⟨rfl, rfl⟩, by rw [hlog]; exact h3, fun ht => ?_, ?_, ⟨by rw [hll]; omega, by rw [hll, hlen]; omega⟩, rfl, h.room, h.sz, rfl, h.mark, rfl, ?_, ?_⟩
  · obtain ⟨hj, k, hk, e⟩ := h4 ht
    exact ⟨m.recs[j], k, hk, e, (hm.recs _ (List.getElem_mem hj)).big⟩
  · rw [hll, hlog]
    by_cases h6 : m.forced + dm.left c ≤ lenL m.recs
    · rw [Nat.min_eq_left h6]
    · rw [Nat.min_eq_right (by omega), List.take_of_length_le (by omega), List.take_of_length_le (by omega)]
  · have h6 := h.fin
    have h7 := lenL_take_le m.recs j
    unfold LM.fin at h6
    omega
  · have := h.sz
    rw [hll]
    omega

/-- behind a crash: the device, and the model's box beside it -/
structure CrS (w0 : World) (D b : Nat) (G F : Foot) (size : Nat) (bw : Value) (l : List UInt8) (dm : DM) (m : LM) (wr : World) : Prop where
  disk : DiskAt wr D (uf (fun k => k = b) G) F dm
  bl : Below w0.heap.size w0 wr
  fo : ∀ k, F k → w0.heap.size ≤ k
  zo : ∀ k, uf (fun k => k = b) G k → w0.heap.size ≤ k
  rd : RdB (fun k => ¬ G k) wr bw l
  box : wr.heap[b]? = some (.cells (rlC m bw size) 59 (0, 0))
  nb : ¬ G b

section
variable {w0 wr w' : World} {D L b size n j : Nat} {G F : Foot} {bw : Value} {l : List UInt8} {dm : DM} {m m2 : LM} {tail : Bytes}
theorem CrS.below (h : CrS w0 D b G F size bw l dm m wr) (hb : Below wr.heap.size wr w') : CrS w0 D b G F size bw l dm m w' :=
  ⟨h.disk.below hb, h.bl.trans (hb.mono h.bl.size), h.fo, h.zo, h.rd.below hb, (hb.block _ (lt_of_block h.box)).trans h.box, h.nb⟩

/-- the model's box is set -/
theorem CrS.turn {w2 : World} {bw' : Value} {l' : List UInt8} (h : CrS w0 D b G F size bw l dm m wr) (hn : NewRd G wr w' bw' l')
    (hbl : ∀ k, k ≠ b → w2.heap[k]? = w'.heap[k]?) (hbox : w2.heap[b]? = some (.cells (rlC m2 bw' size) 59 (0, 0)))
    (h1 : w2.os = w'.os) (h2 : w2.tape = w'.tape) (h3 : w2.output = w'.output) (h4 : w2.heap.size = w'.heap.size) :
    ∃ G', CrS w0 D b G' F size bw' l' dm m2 w2 := by
  obtain ⟨hb, G', hG, hrd⟩ := hn
  have hbs : b < wr.heap.size := lt_of_block h.box
  have hnb : ¬ G' b := fun e => by rcases hG b e with e1 | e1; exact h.nb e1; omega
  have hchg : Chg (uf (fun k => k = b) G) (uf (fun k => k = b) G') wr w2 :=
    ⟨h1.trans hb.os, h2.trans hb.tape, h3.trans hb.output, by rw [h4]; exact hb.size, fun k hk hZ => by
      rw [hbl k (fun e => hZ (.inl e))]; exact hb.block k hk, fun k hk => by
      rcases hk with e | e
      · exact .inl (.inl e)
      · rcases hG k e with e1 | e1
        · exact .inl (.inr e1)
        · exact .inr ⟨e1.1, by rw [h4]; exact e1.2⟩⟩
  refine ⟨G', h.disk.chgE hchg, h.bl.trans (hchg.below h.bl.size (fun k hk h9 => by have := h.zo k h9; omega)), h.fo, fun k hk => ?_, RdV.keep hrd (fun k _ hn => hbl k (fun e => ?_)) (fun _ _ h => h), hbox, hnb⟩
  · rcases hchg.foot k hk with e | e
    · exact h.zo k e
    · have := h.bl.size; omega
  · subst e
    exact hnb (Classical.not_not.1 hn)

/-- the crash -/
def CrashX (w0 : World) (b : Nat) (G : Foot) (size n : Nat) (bw : Value) (m : LM) (e : Ending) (w' : World) : Prop :=
  ∃ D2 F2 dm2 j tail, e = .returned (.pointer (some ⟨D2, 0, none⟩)) ∧ CrS w0 D2 b G F2 size bw m.bytes dm2 m w' ∧ CrP size n dm2 m j tail
theorem PlS.crash {v : Value} {c : Bytes} (h : PlS w0 D L b G size n bw dm m wr) (hn : n ≤ 1048576) (hv : RdB NoF w0 v c) :
    Calls Try.prog 21 #[.pointer (some ⟨D, 0, none⟩), v] wr (CrashX w0 b G size n bw m) := by
  obtain ⟨j, tail, hcr⟩ := h.dv.crash h.mid.own.dwf h.mid.own.wf c
  obtain ⟨F, bv, sv, h1, h2, h3, h4⟩ := h.mid.own
  refine (d_crash wr D F dm h1.disk (by have := h.dv.ops; omega) v c (rd_far7 hv h2 (fun k hk => h3 k (.inl hk)))).mono ?_
  rintro e w' ⟨rfl, F', hd, hb, hf⟩
  refine ⟨_, F', _, j, tail, rfl, ⟨hd.sub (fun k hk => .inr (.inr hk)), h2.trans (hb.mono h2.size), fun k hk => ?_, fun k hk => (h4 k hk).1, h.mid.rl.rd.below hb, (hb.block _ (lt_of_block h.mid.box)).trans h.mid.box, h.mid.nb⟩, hcr⟩
  have := hf k hk
  have := h2.size
  omega

/-- Open behind it -/
def OpenX (w0 : World) (D b : Nat) (G : Foot) (size n : Nat) (bw : Value) (m : LM) (e : Ending) (w' : World) : Prop :=
  ∃ L2 dm2, e = .returned (.tuple #[.pointer (some ⟨L2, 0, none⟩), .int .i64 0]) ∧ PlS w0 D L2 b G size (n + 1) bw dm2 m w'
theorem CrS.open (h : CrS w0 D b G F size bw (m.left j).bytes dm (m.left j) wr) (hp : CrP size n dm m j tail) (hm : m.Wf) (hn : n ≤ 1048576) :
    Calls Try.prog 22 #[.pointer (some ⟨D, 0, none⟩)] wr (OpenX w0 D b G size n bw (m.left j)) := by
  have hwf : (m.left j).Wf := ⟨fun r hr => hm.recs r (List.mem_of_mem_take hr), Nat.le_trans (lenL_take_le _ _) hm.len, hm.base, Nat.le_refl _, hm.check⟩
  have hops : dm.ops < 4398046511104 := by have := hp.ops; omega
  have hfu : dm.fuse ≠ 0 := by rw [hp.live.2]; decide
  have htl : tail ≠ [] → ∀ W v, RdB NoF W v dm.log → Calls Try.prog 11 #[v, .int .i64 (lenL (m.recs.take j) : Nat), .int .u64 (m.base + lenL (m.recs.take j) : Nat)] W (BodyNo W 4) := by
    intro ht W v hv
    obtain ⟨r, k, hk, e, hbig⟩ := hp.torn ht
    refine body_torn W v dm.log _ r _ k (m.left j).bytes hv (by rw [hp.log, e]) (encL_length _ _).symm hk hbig _
  have hop : Calls Try.prog 22 #[.pointer (some ⟨D, 0, none⟩)] wr (OpenGen wr D (uf (fun k => k = b) G) F dm m.base m.check (m.recs.take j)) := by
    rcases hp.mark with ⟨h1, h2, h3⟩ | h1
    · exact open_plain wr D _ F dm m.base m.check (m.recs.take j) tail h.disk hp.live.1 hops hfu hp.log hp.cert ⟨h1, h2, h3⟩ hwf htl
    · exact open_mark wr D _ F dm m.base m.check (m.recs.take j) tail h.disk hp.live.1 hops hfu hp.log hp.cert h1 hwf htl
  refine hop.mono ?_
  rintro e w' ⟨L2, bv, sv, F', rfl, hl, hc, hlf⟩
  have hle : lenL (m.recs.take j) ≤ dm.log.length := by
    rw [hp.log, List.length_append]
    have : (m.left j).bytes.length = lenL (m.recs.take j) := encL_length _ _
    omega
  have hbl : (m.left j).bytes.length = lenL (m.recs.take j) := encL_length _ _
  have hzs : ∀ k, uf (fun k => k = b) G k → k < wr.heap.size := fun k hk => h.disk.E_lt k hk
  have hzf : ∀ k, uf (fun k => k = b) G k → ¬ F k := fun k hk => h.disk.apart k hk
  have hkz : ∀ k, uf (fun k => k = b) G k → w'.heap[k]? = wr.heap[k]? := fun k hk => hc.block k (hzs k hk) (hzf k hk)
  have hdm : openDM dm (lenL (m.recs.take j)) = dm ∨ openDM dm (lenL (m.recs.take j)) = { dm with ops := dm.ops + 1, log := dm.log.take (lenL (m.recs.take j)), certain := lenL (m.recs.take j) } := by
    unfold openDM
    by_cases h1 : lenL (m.recs.take j) = dm.log.length
    · rw [if_pos h1]; exact .inl rfl
    · rw [if_neg h1, trim_eq hp.live.1 hfu _ hle, live_spend hp.live]; exact .inr rfl
  have hdv : Dv size (n + 1) (openDM dm (lenL (m.recs.take j))) (m.left j) := by
    have hfin : (m.left j).fin ≤ 1 + (n + 1) * 4096 := by have := hp.fin; show m.base + lenL (m.recs.take j) ≤ _; omega
    have ho := hp.ops
    have htk : dm.log.take (lenL (m.recs.take j)) = (m.left j).bytes := by rw [hp.log, List.take_left' hbl]
    unfold openDM
    by_cases h1 : lenL (m.recs.take j) = dm.log.length
    · rw [if_pos h1]
      have h2 : dm.log = (m.left j).bytes := by rw [← htk, h1, List.take_length]
      exact ⟨hp.live, h2, by rw [hp.cert, ← h1]; rfl, hp.room, hp.sz, hp.tl, hp.mark, by omega, hfin⟩
    · rw [if_neg h1, trim_eq hp.live.1 hfu _ hle, live_spend hp.live]
      exact ⟨⟨hp.live.1, hp.live.2⟩, htk, rfl, hp.room, hp.sz, hp.tl, hp.mark, by show dm.ops + 1 ≤ _; omega, hfin⟩
  refine ⟨L2, _, rfl, hdv, ⟨F', bv, sv, hl, h.bl.trans (hc.below h.bl.size (fun k hk h9 => by have := h.fo k h9; omega)), fun k hk => ?_, fun k hk => ⟨h.zo k hk, fun h9 => ?_⟩⟩, ⟨RdV.keep h.rd (fun k _ hn => hkz k (.inr (Classical.not_not.1 hn))) (fun _ _ h => h), hwf⟩, (hkz b (.inl rfl)).trans h.box, h.nb⟩
  · rcases hk with hk | hk
    · rcases hc.foot k hk with h9 | h9
      · exact h.fo k h9
      · have := h.bl.size; omega
    · have := (hlf k hk).1; have := h.bl.size; omega
  · have := (hlf k h9).1
    have := hzs k hk
    omega
end
end Mun
