/- The law of chapter 7, WalPlays: its state; what each deed does to the log. -/
import Derived.Test.YtoblajbffnkkiaaW7L
import Derived.Test.YtoblajbffnkkiaaOwnX
import Derived.Test.YtoblajbffnkkiaaMgG
import Derived.Test.YtoblajbffnkkiaaLogN
import Derived.Test.YtoblajbffnkkiaaLogO
import Derived.Test.YtoblajbffnkkiaaLogQ
import Derived.Test.YtoblajbffnkkiaaLogS
set_option maxRecDepth 100000
set_option linter.unusedVariables false
set_option linter.unusedSimpArgs false
namespace Mun
open Go Go.RowKit
open Go.Proofs

/-- what the device holds of the log, n deeds on -/
structure Dv (size n : Nat) (dm : DM) (m : LM) : Prop where
  live : Live dm
  log : dm.log = m.bytes
  cert : dm.certain = m.forced
  room : dm.room = size
  sz : size ≤ 4095
  tail : dm.tail = []
  mark : (dm.mark = [] ∧ m.base = 1 ∧ m.check = 0) ∨ dm.mark = markB m.base m.check
  ops : dm.ops ≤ n
  fin : m.fin ≤ 1 + n * 4096

section
variable {size n : Nat} {dm dm' : DM} {m : LM}
theorem Dv.more (h : Dv size n dm m) : Dv size (n + 1) dm m := ⟨h.live, h.log, h.cert, h.room, h.sz, h.tail, h.mark, Nat.le_succ_of_le h.ops, by have := h.fin; omega⟩
theorem Dv.llen (h : Dv size n dm m) : dm.log.length = lenL m.recs := by rw [h.log]; exact encL_length _ _
theorem Dv.len (h : Dv size n dm m) (hw : dm.Wf) : lenL m.recs ≤ size := by have h1 := hw.room; rw [h.llen, h.tail, h.room] at h1; simpa using h1
theorem Dv.app {r : PR} {k : Int} (h : Dv size n dm m) (ha : dm.append (recB r m.fin) = (dm', k)) :
    (k = 7 ∧ dm' = dm ∧ size < lenL m.recs + recLen r) ∨ (k = 0 ∧ lenL m.recs + recLen r ≤ size ∧ Dv size (n + 1) dm' (m.push r)) := by
  rw [live_append h.live, h.llen, recB_len, h.room] at ha
  split at ha
  · rename_i h1
    simp only [Prod.mk.injEq] at ha
    exact .inl ⟨ha.2.symm, ha.1.symm, h1⟩
  · rename_i h1
    simp only [Prod.mk.injEq] at ha
    obtain ⟨rfl, rfl⟩ := ha
    refine .inr ⟨rfl, by omega, ⟨⟨h.live.1, h.live.2⟩, ?_, h.cert, rfl, h.sz, h.tail, h.mark, Nat.succ_le_succ h.ops, ?_⟩⟩
    · rw [LM.push_bytes, ← h.log]
    · have h2 := h.fin
      have h3 := h.sz
      have e : (m.push r).fin = m.fin + recLen r := by unfold LM.push LM.fin; simp only [lenL_append, lenL]; omega
      rw [e]; omega
theorem Dv.frc {k : Int} (h : Dv size n dm m) (hf : dm.force = (dm', k)) : k = 0 ∧ Dv size (n + 1) dm' m.done := by
  rw [live_force h.live] at hf
  simp only [Prod.mk.injEq] at hf
  obtain ⟨rfl, rfl⟩ := hf
  refine ⟨rfl, ⟨h.live.1, h.live.2⟩, h.log, h.llen, h.room, h.sz, h.tail, h.mark, Nat.succ_le_succ h.ops, ?_⟩
  have := h.fin
  show m.fin ≤ _
  omega
theorem Dv.cutd {i : Nat} {k : Int} (h : Dv size n dm m) (hf : m.off i ≤ m.forced) (hc : dm.cut (m.off i) (markB (m.base + m.off i) m.check) = (dm', k)) : k = 0 ∧ Dv size (n + 1) dm' (m.cut i) := by
  rw [live_cut h.live (by rw [h.cert]; exact hf) (by simp [markB, leBytes_length])] at hc
  simp only [Prod.mk.injEq] at hc
  obtain ⟨rfl, rfl⟩ := hc
  refine ⟨rfl, ⟨h.live.1, h.live.2⟩, ?_, ?_, h.room, h.sz, h.tail, .inr rfl, Nat.succ_le_succ h.ops, ?_⟩
  · show dm.log.drop _ = _
    rw [h.log, LM.cut_bytes]
  · show dm.certain - _ = m.forced - _
    rw [h.cert]
  · have := h.fin
    rw [LM.cut_fin]
    omega
theorem live_mark (h : Live dm) {b : Bytes} (hb : b.length ≤ 64) : dm.setMark b = ({ dm with ops := dm.ops + 1, mark := b }, 0) := by
  unfold DM.setMark
  rw [if_neg (by rw [h.1]; decide), if_neg (by omega), if_neg (by rw [h.2]; decide), live_spend h]
theorem Dv.chkd {c : Nat} {k : Int} (h : Dv size n dm m) (hc : dm.setMark (markB m.base c) = (dm', k)) : k = 0 ∧ Dv size (n + 1) dm' (m.chk c) := by
  rw [live_mark h.live (by simp [markB, leBytes_length])] at hc
  simp only [Prod.mk.injEq] at hc
  obtain ⟨rfl, rfl⟩ := hc
  refine ⟨rfl, ⟨h.live.1, h.live.2⟩, h.log, h.cert, h.room, h.sz, h.tail, .inr rfl, Nat.succ_le_succ h.ops, ?_⟩
  have := h.fin
  show m.fin ≤ _
  omega
end

/-- the log's step is done, the model's not yet: the log stands as mp, the model's box as m -/
structure PlM (w0 : World) (D L b : Nat) (G : Foot) (size : Nat) (bw : Value) (dm : DM) (mp m : LM) (wr : World) : Prop where
  own : OwnG w0 D L dm mp (uf (fun k => k = b) G) wr
  rl : RLv (fun k => ¬ G k) wr m bw
  box : wr.heap[b]? = some (.cells (rlC m bw size) 59 (0, 0))
  nb : ¬ G b

/-- as the law's loop stands -/
structure PlS (w0 : World) (D L b : Nat) (G : Foot) (size n : Nat) (bw : Value) (dm : DM) (m : LM) (wr : World) : Prop where
  dv : Dv size n dm m
  mid : PlM w0 D L b G size bw dm m m wr

section
variable {w0 wr w' : World} {D L b size n : Nat} {G : Foot} {bw : Value} {dm dm' : DM} {mp mp' m : LM}
theorem PlM.step (h : PlM w0 D L b G size bw dm mp m wr) (ho : OwnG w0 D L dm' mp' (uf (fun k => k = b) G) w') (hk : KeepZ (uf (fun k => k = b) G) wr w') : PlM w0 D L b G size bw dm' mp' m w' :=
  ⟨ho, ⟨RdV.keep h.rl.rd (fun k _ hn => hk.2 k (.inr (Classical.not_not.1 hn))) (fun _ _ h => h), h.rl.wf⟩, (hk.2 b (.inl rfl)).trans h.box, h.nb⟩
theorem PlM.below (h : PlM w0 D L b G size bw dm mp m wr) (hb : Below wr.heap.size wr w') : PlM w0 D L b G size bw dm mp m w' :=
  ⟨h.own.grow hb, h.rl.below hb, (hb.block _ (lt_of_block h.box)).trans h.box, h.nb⟩
theorem PlS.below (h : PlS w0 D L b G size n bw dm m wr) (hb : Below wr.heap.size wr w') : PlS w0 D L b G size n bw dm m w' := ⟨h.dv, h.mid.below hb⟩
theorem PlS.more (h : PlS w0 D L b G size n bw dm m wr) : PlS w0 D L b G size (n + 1) bw dm m wr := ⟨h.dv.more, h.mid⟩

/-- a new block beside it -/
theorem PlS.box (h : PlS w0 D L b G size n bw dm m wr) (o : Obj) : PlS w0 D L b (fun k => G k ∨ k = wr.heap.size) size n bw dm m (wr.alloc o) := by
  have hb : Below wr.heap.size wr (wr.alloc o) := (Below.refl _ _).alloc (Nat.le_refl _) o
  have hs : (wr.alloc o).heap.size = wr.heap.size + 1 := World.size_alloc _ _
  have hbs : b < wr.heap.size := lt_of_block h.mid.box
  have hchg : Chg (uf (fun k => k = b) G) (uf (fun k => k = b) (fun k => G k ∨ k = wr.heap.size)) wr (wr.alloc o) :=
    ⟨rfl, rfl, rfl, hb.size, fun k hk _ => hb.block k hk, fun k hk => by
      rcases hk with e | e | e
      · exact .inl (.inl e)
      · exact .inl (.inr e)
      · exact .inr ⟨by omega, by omega⟩⟩
  exact ⟨h.dv, h.mid.own.row hchg, ⟨RdV.keep h.mid.rl.rd (fun k hk _ => hb.block k hk) (fun k _ hn => fun hg => hn (.inl hg)), h.mid.rl.wf⟩, (hb.block _ hbs).trans h.mid.box, fun e => by rcases e with e | e; exact h.mid.nb e; omega⟩

/-- what the model's bytes are read from: old blocks of its own, or new ones -/
def NewRd (G : Foot) (w w' : World) (bw : Value) (l : List UInt8) : Prop :=
  Below w.heap.size w w' ∧ ∃ G' : Foot, (∀ k, G' k → G k ∨ (w.heap.size ≤ k ∧ k < w'.heap.size)) ∧ RdB (fun k => ¬ G' k) w' bw l
theorem NewRd.same {w w' : World} {l : List UInt8} (h : RdB (fun k => ¬ G k) w' bw l) (hb : Below w.heap.size w w') : NewRd G w w' bw l := ⟨hb, G, fun k hk => .inl hk, h⟩
theorem NewRd.own {w w' : World} {l : List UInt8} (h : OwnB w' w.heap.size 5 bw l) (hb : Below w.heap.size w w') : NewRd G w w' bw l :=
  ⟨hb, fun k => w.heap.size ≤ k ∧ k < w'.heap.size, fun k hk => .inr hk, RdV.keep (F := fun k => ¬ (w.heap.size ≤ k ∧ k < w'.heap.size) ∧ k < w'.heap.size) (RdV.of_own' h (fun k hk hF => by have := h.lt k hk; exact hF.1 ⟨this.1, this.2⟩)) (fun _ _ _ => rfl) (fun k hk h => ⟨h, hk⟩)⟩
theorem NewRd.more {w w' w'' : World} {l : List UInt8} (h : NewRd G w w' bw l) (hb : Below w'.heap.size w' w'') : NewRd G w w'' bw l := by
  obtain ⟨h1, G', h2, h3⟩ := h
  exact ⟨h1.trans (hb.mono h1.size), G', fun k hk => (h2 k hk).imp id (fun h => ⟨h.1, Nat.lt_of_lt_of_le h.2 hb.size⟩), h3.below hb⟩

/-- the model's box is set -/
theorem PlM.turn {w2 : World} {bw' : Value} (h : PlM w0 D L b G size bw dm mp m wr) (hn : NewRd G wr w' bw' mp.bytes) (hdv : Dv size n dm mp)
    (hbl : ∀ k, k ≠ b → w2.heap[k]? = w'.heap[k]?) (hbox : w2.heap[b]? = some (.cells (rlC mp bw' size) 59 (0, 0)))
    (h1 : w2.os = w'.os) (h2 : w2.tape = w'.tape) (h3 : w2.output = w'.output) (h4 : w2.heap.size = w'.heap.size) :
    ∃ G', PlS w0 D L b G' size n bw' dm mp w2 := by
  obtain ⟨hb, G', hG, hrd⟩ := hn
  have hbs : b < wr.heap.size := lt_of_block h.box
  have hnb : ¬ G' b := fun e => by rcases hG b e with e1 | e1; exact h.nb e1; omega
  have hchg : Chg (uf (fun k => k = b) G) (uf (fun k => k = b) G') wr w2 :=
    ⟨h1.trans hb.os, h2.trans hb.tape, h3.trans hb.output, by rw [h4]; exact hb.size, fun k hk hZ => by
      rw [hbl k (fun e => hZ (.inl e))]; exact hb.block k hk, fun k hk => by
      rcases hk with e | e
      · exact .inl (.inl e)
      · rcases hG k e with e1 | e1
        · exact .inl (.inr e1)
        · exact .inr ⟨e1.1, by rw [h4]; exact e1.2⟩⟩
  refine ⟨G', hdv, h.own.row hchg, ⟨RdV.keep hrd (fun k _ hn => hbl k (fun e => ?_)) (fun _ _ h => h), h.own.wf⟩, hbox, hnb⟩
  subst e
  exact hnb (Classical.not_not.1 hn)
end
end Mun
