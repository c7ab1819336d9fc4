/- The reference's Crash: the new device on its way; plain lemmas. -/
import Derived.Test.YtmlggofojdhmmaaRefG
set_option maxRecDepth 100000
set_option linter.unusedVariables false
set_option linter.unusedSimpArgs false
namespace Mun
open Go Go.RowKit
open Go.Proofs

theorem w64 (n : Int) (h1 : -9223372036854775808 ≤ n) (h2 : n ≤ 9223372036854775807) : IntKind.i64.wrap n = n := by
  rw [IntKind.wrap_i64]
  omega
def fillB (l : List Bytes) (q : Nat) : List Bytes := l.take q ++ List.replicate (l.length - q) page0
theorem fillB_zero (l : List Bytes) : fillB l 0 = List.replicate l.length page0 := by simp [fillB]
theorem fillB_full (l : List Bytes) : fillB l l.length = l := by simp [fillB]
theorem fillB_length (l : List Bytes) (q : Nat) (h : q ≤ l.length) : (fillB l q).length = l.length := by simp [fillB]; omega
theorem fillB_succ (l : List Bytes) (q : Nat) (h : q < l.length) : (fillB l q).set q l[q] = fillB l (q + 1) := by
  unfold fillB
  have h1 : l.length - q = (l.length - (q + 1)) + 1 := by omega
  rw [h1, List.replicate_succ, List.set_append_right _ _ (by rw [List.length_take]; omega), List.length_take, Nat.min_eq_left (by omega), Nat.sub_self, List.set_cons_zero, List.take_succ_eq_append_getElem h, List.append_assoc]
  rfl
def mixB (b old : Bytes) (i : Nat) : Bytes := b.take i ++ old.drop i
theorem mixB_length (b old : Bytes) (i : Nat) (h1 : b.length = 512) (h2 : old.length = 512) (hi : i ≤ 512) : (mixB b old i).length = 512 := by
  unfold mixB
  rw [List.length_append, List.length_take, List.length_drop]
  omega
theorem mixB_succ (b old : Bytes) (i : Nat) (h1 : b.length = 512) (h2 : old.length = 512) (hi : i < 512) : (mixB b old i).set i (b[i]'(by omega)) = mixB b old (i + 1) := by
  unfold mixB
  rw [List.set_append_right _ _ (by rw [List.length_take]; omega), List.length_take, Nat.min_eq_left (by omega), Nat.sub_self, List.drop_eq_getElem_cons (by omega), List.set_cons_zero, List.take_succ_eq_append_getElem (by omega), List.append_assoc]
  rfl

theorem ownV_cell {w : World} {B g n c : Nat} {xs : List Value} (h : OwnV w B (.slice (some ⟨g, 0, none⟩) n c) xs) (i : Nat) (hi : i < xs.length) : w.cell? ⟨g, i, none⟩ = some xs[i] ∧ w.frozen? ⟨g, i, none⟩ = false := by
  rcases h.2 with ⟨hn, _⟩ | ⟨g', cap, cur, e, hbg, hg, hnc, hcm, hcs, htake⟩
  · simp at hn
  · injection e with e1 e2 e3
    injection e1 with e1
    injection e1 with e1 _ _
    subst e1 e3
    refine ⟨?_, by simp [World.frozen?, hg]⟩
    rw [cell_of_row w g i cur _ _ hg, ← Array.getElem?_toList]
    have h2 : (cur.toList.take xs.length)[i]? = xs[i]? := by
      have h3 := htake
      simp only [Nat.mul_one] at h3
      rw [h3]
    rw [List.getElem?_take_of_lt hi] at h2
    rw [h2, List.getElem?_eq_getElem hi]
theorem ownB_frozen {w : World} {B g n c : Nat} {l : Bytes} (h : OwnB w B 5 (.slice (some ⟨g, 0, none⟩) n c) l) (i : Nat) : w.frozen? ⟨g, i, none⟩ = false := by
  obtain ⟨cur, hc⟩ := own_blk h rfl
  simp [World.frozen?, hc]

/-- the new device in its box -/
structure CrX (w w1 wr : World) (room O q : Nat) (v : Value) (us : List Value) (cs : List Bytes) : Prop where
  cr : CrP (w.heap.size + 2) w1 wr q v us cs
  ob : BoxAt wr O (newC room v)
  le : w.heap.size + 2 ≤ O
section
variable {w w1 wr w' : World} {room O q q2 : Nat} {v : Value} {us : List Value} {cs : List Bytes}
theorem CrX.lt (h : CrX w w1 wr room O q v us cs) : w.heap.size + 2 ≤ wr.heap.size := Nat.le_of_lt (Nat.lt_of_le_of_lt h.le h.ob.lt)
theorem CrX.grow (h : CrX w w1 wr room O q v us cs) (hb : Below wr.heap.size wr w') : CrX w w1 w' room O q v us cs := ⟨h.cr.below h.lt hb, h.ob.below hb h.ob.lt, h.le⟩
theorem CrX.put {g n c : Nat} (h : CrX w w1 wr room O q (.slice (some ⟨g, 0, none⟩) n c) us cs) (hb : Below wr.heap.size wr w') (i : Nat) (hi : i < us.length) (hq : ∀ a, a < q2 → a < q ∨ a = i) {x : Value} {l : Bytes} (ho : OwnB w' wr.heap.size 5 x l) :
    CrX w w1 (w'.setCell ⟨g, i, none⟩ x) room O q2 (.slice (some ⟨g, 0, none⟩) n c) (us.set i x) (cs.set i l) :=
  ⟨h.cr.put h.lt hb i hi hq ho, (h.ob.below hb h.ob.lt).setNe i x (box_row_ne h.ob h.cr.new.row rfl).symm, h.le⟩
theorem CrX.byte (h : CrX w w1 wr room O q v us cs) (i : Nat) (hin : i < q) {p k c : Nat} (hu : us[i]? = some (.slice (some ⟨p, 0, none⟩) k c)) {l : Bytes} (hl : cs[i]? = some l) (j : Nat) (hj : j < l.length) (b : UInt8) (x : Int) (hx : x = b.toNat) :
    CrX w w1 (wr.setCell ⟨p, j, none⟩ (.int .u8 x)) room O q v us (cs.set i (l.set j b)) := by
  obtain ⟨d, h1, h2⟩ := h.cr.new.own i _ hu
  exact ⟨h.cr.byte i hin hu hl j hj b x hx, h.ob.setNe j _ (box_own_ne h.ob h2 rfl).symm, h.le⟩
theorem CrX.rep {F : Foot} {m : DM} {r : RV} (h : CrX w w1 wr room O q v us cs) (hb : Below w.heap.size w w1) (hr : RRep F w m r) : RRep F wr m r :=
  hr.below (hb.trans (h.cr.new.bl.mono (by omega)))
theorem CrX.rd {F : Foot} {u : Value} {l : Bytes} (h : CrX w w1 wr room O q v us cs) (hb : Below w.heap.size w w1) (hr : RdB F w u l) : RdB F wr u l :=
  RdB.below hr (hb.trans (h.cr.new.bl.mono (by omega)))
theorem CrX.box {b : Nat} {bc : Array Value} (h : CrX w w1 wr room O q v us cs) (hx : BoxAt w1 b bc) (hb : b < w.heap.size + 2) : BoxAt wr b bc := (h.cr.new.bl.block b hb).trans hx
theorem CrX.drew (h : CrX w w1 wr room O q v us cs) : CrX w w1 wr.drew room O q v us cs := ⟨h.cr.below h.lt (below_drewN (Below.refl _ _) 1), h.ob, h.le⟩
/-- a page of it: a slice with an address -/
theorem CrX.page (h : CrX w w1 wr room O q v us cs) (i : Nat) (hi : i < us.length) {l : Bytes} (hl : cs[i]? = some l) (h512 : l.length = 512) : ∃ p c, us[i] = .slice (some ⟨p, 0, none⟩) 512 c ∧ OwnB wr (w.heap.size + 2) 5 (.slice (some ⟨p, 0, none⟩) 512 c) l := by
  obtain ⟨d, h1, h2⟩ := h.cr.new.own i _ (List.getElem?_eq_getElem hi)
  rw [hl] at h1
  injection h1 with h1
  subst h1
  obtain ⟨p, c, e, -⟩ := h2.at_ (by omega)
  rw [h512] at e
  rw [e] at h2
  exact ⟨p, c, e, h2⟩
end

theorem ownV_addr {w : World} {B n c : Nat} {a : Option Addr} {xs : List Value} (h : OwnV w B (.slice a n c) xs) (hn : 0 < xs.length) : ∃ g, a = some ⟨g, 0, none⟩ := by
  rcases h.2 with ⟨_, h0⟩ | ⟨g', cap, cur, e, _⟩
  · omega
  · injection e with e1 _ _
    exact ⟨g', e1⟩
theorem below_cell {w w' : World} {x : Addr} {v : Value} (h : Below w.heap.size w w') (hv : w.cell? x = some v) : w'.cell? x = some v := by
  have hB := World.block_lt_of_cell? w x hv
  have h1 := h.block x.block hB
  have h2 : w'.cell? x = w.cell? x := by unfold World.cell?; rw [h1]
  rw [h2, hv]

def CraOut (F : Foot) (w : World) (m : DM) (c : Bytes) (e : Ending) (w' : World) : Prop := ∃ r', e = .returned (.agg (rcells (m.crash c) r')) ∧ RRep F w' (m.crash c) r' ∧ Below w.heap.size w w'

def Go6 (w : World) (O : Nat) : Foot := fun k => k < w.heap.size + 2 ∨ k = O
/-- the new device made: its box, the result's box, the pages, other values -/
structure FiX (w wz : World) (O : Nat) (pc cells : Array Value) (v : Value) (cs : List Bytes) (us : List Value) (L : List (Value × Bytes)) : Prop where
  bl : Below w.heap.size w wz
  pb : BoxAt wz w.heap.size pc
  bx : BoxAt wz O cells
  rs : BoxAt wz (w.heap.size + 1) Z13
  hO : w.heap.size + 2 ≤ O
  ls : ListsAt (Go6 w O) wz v cs us
  rd : ∀ x ∈ L, RdB (Go6 w O) wz x.1 x.2
section
variable {w w1 wz w' : World} {O : Nat} {pc cells : Array Value} {v : Value} {us : List Value} {cs : List Bytes} {L : List (Value × Bytes)}
theorem FiX.start {room q : Nat} (h : CrX w w1 wz room O q v us cs) (hb : Below w.heap.size w w1) (hp : BoxAt w1 w.heap.size pc) (hr : BoxAt w1 (w.heap.size + 1) Z13) : FiX w wz O pc (newC room v) v cs us [] := by
  refine ⟨hb.trans (h.cr.new.bl.mono (by omega)), h.box hp (by omega), h.ob, h.box hr (by omega), h.le, ⟨?_, fun i hi => ?_⟩, fun x hx => by simp at hx⟩
  · rw [← h.cr.new.len]
    exact RdV.of_own' h.cr.new.row (fun k hk hF => by
      rcases hF with hF | hF
      · have := (h.cr.new.row.lt k hk).1; omega
      · exact box_row_ne h.ob h.cr.new.row hk hF)
  · obtain ⟨d, h1, h2⟩ := h.cr.new.own i (us[i]'(by rw [h.cr.new.len]; exact hi)) (List.getElem?_eq_getElem _)
    rw [List.getElem?_eq_getElem hi] at h1
    injection h1 with h1
    subst h1
    exact ⟨_, List.getElem?_eq_getElem _, RdV.of_own' h2 (fun k hk hF => by
      rcases hF with hF | hF
      · have := (h2.lt k hk).1; omega
      · exact box_own_ne h.ob h2 hk hF)⟩
theorem FiX.below (h : FiX w wz O pc cells v cs us L) (hb : Below wz.heap.size wz w') : FiX w w' O pc cells v cs us L :=
  ⟨h.bl.trans (hb.mono h.bl.size), h.pb.below hb h.pb.lt, h.bx.below hb h.bx.lt, h.rs.below hb h.rs.lt, h.hO, h.ls.keep (fun k hk _ => hb.block k hk) (fun _ _ h => h), fun x hx => RdB.below (h.rd x hx) hb⟩
theorem FiX.drewN (h : FiX w wz O pc cells v cs us L) (k : Nat) : FiX w (wz.drewN k) O pc cells v cs us L := h.below (below_drewN (Below.refl _ _) k)
theorem FiX.set (h : FiX w wz O pc cells v cs us L) (i : Nat) (x : Value) : FiX w (wz.setCell ⟨O, i, none⟩ x) O pc (cells.setIfInBounds i x) v cs us L := by
  have hO := h.hO
  have hc : Chg (Go6 w O) (Go6 w O) wz (wz.setCell ⟨O, i, none⟩ x) := chg_setCell wz ⟨O, i, none⟩ x (.inr rfl)
  exact ⟨h.bl.setCell (show w.heap.size ≤ O by omega) _, h.pb.setNe i x (by omega), h.bx.set i x, h.rs.setNe i x (by omega), h.hO, h.ls.chg hc, fun y hy => RdB.chg (h.rd y hy) hc⟩
theorem FiX.push (h : FiX w wz O pc cells v cs us L) {u : Value} {l : Bytes} (hr : RdB (Go6 w O) wz u l) : FiX w wz O pc cells v cs us ((u, l) :: L) :=
  ⟨h.bl, h.pb, h.bx, h.rs, h.hO, h.ls, fun x hx => by
    rcases List.mem_cons.1 hx with rfl | hx
    · exact hr
    · exact h.rd x hx⟩
theorem own_go6 {B : Nat} {u : Value} {l : Bytes} (ho : OwnB wz B 5 u l) (hO : O < B) (hB : w.heap.size + 2 ≤ O) : RdB (Go6 w O) wz u l :=
  OwnB.rd ho (fun k hk hG => by
    rcases hG with h1 | h1
    · omega
    · omega)
theorem FiX.rdOld {F : Foot} {u : Value} {l : Bytes} (h : FiX w wz O pc cells v cs us L) (hr : RdB F w u l) : RdB F wz u l := RdB.below hr h.bl
theorem FiX.fin (h : FiX w wz O pc cells v cs us L) (cs' : Array Value) : Below w.heap.size w (wz.setRow (w.heap.size + 1) cs') ∧ BoxAt (wz.setRow (w.heap.size + 1) cs') (w.heap.size + 1) cs' ∧
    ListsAt (Go6 w O) (wz.setRow (w.heap.size + 1) cs') v cs us ∧ (∀ x ∈ L, RdB (Go6 w O) (wz.setRow (w.heap.size + 1) cs') x.1 x.2) := by
  have hc : Chg (Go6 w O) (Go6 w O) wz (wz.setRow (w.heap.size + 1) cs') := chg_setRow _ _ _ (.inl (by omega))
  exact ⟨below_setRow h.bl (by omega) _, h.rs.row _, h.ls.chg hc, fun x hx => RdB.chg (h.rd x hx) hc⟩
/-- the end: the new device's values told -/
theorem crash_rep {F : Foot} {m : DM} {c : Bytes} {lv mv : Value} (hwf : m.Wf) (hF : ∀ k, F k → k < w.heap.size)
    (hl : ListsAt (Go6 w O) w' v (m.crashPages c) us) (hlog : RdB (Go6 w O) w' lv (m.crashLog c)) (hmark : RdB (Go6 w O) w' mv m.mark) :
    RRep F w' (m.crash c) ⟨v, .slice none 0 0, lv, mv, .slice none 0 0, .slice none 0 0, 0, us, []⟩ := by
  have hsub : ∀ k, k < w'.heap.size → F k → Go6 w O k := fun k _ hk => by have := hF k hk; exact .inl (by omega)
  exact ⟨hl.mono hsub, RdV.nil _ _ _, rfl, fun p hp => by simp at hp, RdB.mono hlog hsub, RdB.mono hmark hsub, RdV.nil _ _ _, fun p hp => (by cases hp), ⟨_, _, _, rfl⟩, DM.crash_wf hwf c⟩
end
theorem crashLog_cut {m : DM} (h : m.Wf) (c : Bytes) : (m.log ++ m.tail).take (m.certain + m.left c) = m.crashLog c := by
  unfold DM.crashLog DM.rest
  have h1 : m.log ++ m.tail = m.log.take m.certain ++ (m.log.drop m.certain ++ m.tail) := by rw [← List.append_assoc, List.take_append_drop]
  have h2 : (m.log.take m.certain).length = m.certain := by rw [List.length_take]; have := h.certain; omega
  conv => lhs; rw [h1]
  rw [List.take_append, h2, Nat.add_sub_cancel_left, List.take_of_length_le (by rw [h2]; omega)]
theorem crashAll_length {m : DM} (h : m.Wf) : (m.log ++ m.tail).length = m.certain + m.rest.length := by
  rw [rest_length h, List.length_append]
  have := h.certain
  omega
end Mun
