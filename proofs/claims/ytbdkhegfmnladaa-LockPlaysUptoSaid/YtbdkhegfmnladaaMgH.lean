/- Texts of mine, one behind the other: TbK, FairP, TbL, TbJ. -/
import Derived.Test.YtbdkhegfmnladaaMgG
import Derived.Test.YtbdkhegfmnladaaMgD
import Derived.Test.YtbdkhegfmnladaaMgF
section
/- Steps over a whole table, said of what it turns (its foot); and what a table holds, in plain words. -/
set_option maxRecDepth 100000
set_option linter.unusedVariables false
set_option linter.unusedSimpArgs false
namespace Mun
open Go Go.RowKit
open Go.Proofs

theorem TabR.keepF {w w' : World} {t : TV} (h : TabR w t) (hk : ∀ k, tfoot t k → w'.heap[k]? = w.heap[k]?) : TabR w' t := by
  have kP : ∀ (i : Nat) (x : ByteArray × PV), t.pl[i]? = some x → w'.heap[x.2.p]? = w.heap[x.2.p]? ∧ w'.heap[x.2.H]? = w.heap[x.2.H]? ∧ ∀ g, qblk x.2.q = some g → w'.heap[g]? = w.heap[g]? := fun i x hx =>
    ⟨hk _ (.inr (.inr (.inr (.inr (.inl ⟨i, x, hx, .inl rfl⟩))))), hk _ (.inr (.inr (.inr (.inr (.inl ⟨i, x, hx, .inr (.inl rfl)⟩))))), fun g hg => hk _ (.inr (.inr (.inr (.inr (.inl ⟨i, x, hx, .inr (.inr hg)⟩)))))⟩
  exact ⟨⟨(hk _ (.inl rfl)).trans h.tab.blk, h.tab.pl.keep (hk _ (.inr (.inl rfl))), h.tab.wt.keep (hk _ (.inr (.inr (.inl rfl)))), h.tab.nm.keep (hk _ (.inr (.inr (.inr (.inl rfl)))))⟩,
    fun i x hx => ⟨⟨(kP i x hx).1.trans (h.pls i x hx).1.blk, (h.pls i x hx).1.hl.keep (kP i x hx).2.1⟩, (h.pls i x hx).2.keep (kP i x hx).2.2⟩,
    fun i y hy => (h.nms i y hy).keep (hk _ (.inr (.inr (.inr (.inr (.inr ⟨i, y, hy, rfl⟩)))))), h.d0, h.dH, h.dM, h.dHH, h.dMM, h.dHM⟩

/-- a step of a table -/
structure Stp (w : World) (t : TV) (w' : World) (t' : TV) : Prop where
  rep : TabR w' t'
  chg : Chg (tfoot t) (tfoot t') w w'
  T : t'.T = t.T
theorem Stp.refl {w : World} {t : TV} (h : TabR w t) : Stp w t w t := ⟨h, Chg.refl _ _, rfl⟩
theorem Stp.trans {w w' w'' : World} {t t' t'' : TV} (h : Stp w t w' t') (k : Stp w' t' w'' t'') : Stp w t w'' t'' := ⟨k.rep, h.chg.trans k.chg, k.T.trans h.T⟩
theorem Stp.below {w w' w'' : World} {t t' : TV} (h : Stp w t w' t') (hb : Below w'.heap.size w' w'') : Stp w t w'' t' := ⟨h.rep.keep hb.block, h.chg.trans (Chg.of_below hb _), h.T⟩
theorem TabS.stp {w w' : World} {t t' : TV} (h : TabS (bndOf w t) w' t') (hT : t'.T = t.T) : Stp w t w' t' := ⟨h.rep, h.chg, hT⟩
/-- another block is turned -/
theorem Stp.other {w w' w'' : World} {t t' : TV} (h : Stp w t w' t') (h1 : w'.heap.size ≤ w''.heap.size) (h2 : w''.os = w'.os) (h3 : w''.tape = w'.tape) (h4 : w''.output = w'.output) {B : Nat} (hB : ¬ tfoot t' B) (hB0 : w.heap.size ≤ B) (hk : ∀ k, k < w'.heap.size → k ≠ B → w''.heap[k]? = w'.heap[k]?) : Stp w t w'' t' :=
  ⟨h.rep.keepF (fun k hk2 => hk k (h.rep.foot_lt hk2) (fun e => hB (e ▸ hk2))), ⟨h2.trans h.chg.os, h3.trans h.chg.tape, h4.trans h.chg.output, Nat.le_trans h.chg.size h1, fun k hk2 hn => (hk k (Nat.lt_of_lt_of_le hk2 h.chg.size) (by omega)).trans (h.chg.block k hk2 hn), fun k hk2 => (h.chg.foot k hk2).elim .inl (fun x => .inr ⟨x.1, Nat.lt_of_lt_of_le x.2 h1⟩)⟩, h.T⟩
theorem Stp.nfoot {w w' : World} {t t' : TV} (h : Stp w t w' t') {k : Nat} (hk : k < w.heap.size) (hn : ¬ tfoot t k) : ¬ tfoot t' k := fun e => (h.chg.foot k e).elim hn (fun x => by omega)
theorem Stp.block {w w' : World} {t t' : TV} (h : Stp w t w' t') {k : Nat} {o : Obj} (hk : w.heap[k]? = some o) (hn : ¬ tfoot t k) : w'.heap[k]? = some o := (h.chg.block k (Array.getElem?_eq_some_iff.1 hk).1 hn).trans hk
theorem TabR.nfoot_new {w : World} {t : TV} (h : TabR w t) {k : Nat} (hk : w.heap.size ≤ k) : ¬ tfoot t k := fun e => by have := h.foot_lt e; omega

/-! the steps of Free -/
theorem TabS.turn {W0 : Bnd} {w w' : World} {t t' : TV} {B : Nat} (h : TabS W0 w t) (hB : ¬ W0.S B) (ht : Turn1 w w' B) (hr : TabR w' t') (hlo : ¬ W0.S t'.T ∧ ¬ W0.S t'.P ∧ ¬ W0.S t'.W ∧ ¬ W0.S t'.N)
    (hp : ∀ (i : Nat) (x : ByteArray × PV), t'.pl[i]? = some x → ¬ W0.S x.2.p ∧ ¬ W0.S x.2.H ∧ ∀ g, qblk x.2.q = some g → ¬ W0.S g)
    (hn : ∀ (i : Nat) (y : Int × (Nat × List ByteArray)), t'.nm[i]? = some y → ¬ W0.S y.2.1) : TabS W0 w' t' := by
  obtain ⟨h1, h2, h3, h4, h5⟩ := ht
  exact ⟨hr, h.bl.step (by rw [h1]; exact Nat.le_refl _) h2 h3 h4 (fun k hk => h5 k (fun e => hB (e ▸ hk))), hlo, hp, hn⟩

theorem TabR.nameDel_r {w : World} {t : TV} (h : TabR w t) (o : Int) :
    ∃ w', (∀ ty, (Builtin.delete_ #[64, 29] ty #[.map (some t.N), .int .u64 o]).run Try.prog w = .ok (.tuple #[]) w') ∧ Turn1 w w' t.N ∧ Stp w t w' { t with nm := kdel t.nm o } := by
  obtain ⟨ob, hrun, hg⟩ := gmap_delete (P := Try.prog) (ty := 0) Try.underlying64 Try.underlying29 h.tab.nm o 29
  have ht := turn1_obj w t.N ob
  obtain ⟨f, -, hx⟩ := kdel_idx t.nm o
  have hs := h.tabS
  exact ⟨_, fun ty => hrun, ht, (hs.turn hs.lo.2.2.2 ht (h.nameDel o hg (fun k _ hk => ht.2.2.2.2 k hk)) hs.lo hs.loP (fun i y hy => hs.loN _ y (hx i y hy))).stp rfl⟩
theorem TabR.waitsDel_r {w : World} {t : TV} (h : TabR w t) (o : Int) :
    ∃ w', (∀ ty, (Builtin.delete_ #[63, 29] ty #[.map (some t.W), .int .u64 o]).run Try.prog w = .ok (.tuple #[]) w') ∧ Turn1 w w' t.W ∧ Stp w t w' { t with ws := kdel t.ws o } := by
  obtain ⟨ob, hrun, hg⟩ := gmap_delete (P := Try.prog) (ty := 0) Try.underlying63 Try.underlying29 h.tab.wt o 29
  have ht := turn1_obj w t.W ob
  have hws : wsV (kdel t.ws o) = gdel (wsV t.ws) o := (gdel_map (fun a : Int × (ByteArray × Int) => (a.1, Value.agg #[.string a.2.1, .int .i64 a.2.2])) (fun _ => rfl) t.ws o).symm
  have hs := h.tabS
  exact ⟨_, fun ty => hrun, ht, (hs.turn hs.lo.2.2.1 ht (h.waits (ws := kdel t.ws o) (by rw [hws]; exact hg) (fun k _ hk => ht.2.2.2.2 k hk)) hs.lo hs.loP hs.loN).stp rfl⟩
theorem TabR.heldDel_r {w : World} {t : TV} (h : TabR w t) {i : Nat} {s : ByteArray} {x : PV} (hx : t.pl[i]? = some (s, x)) (o : Int) :
    ∃ w', (∀ ty, (Builtin.delete_ #[68, 29] ty #[.map (some x.H), .int .u64 o]).run Try.prog w = .ok (.tuple #[]) w') ∧ Turn1 w w' x.H ∧ Stp w t w' { t with pl := t.pl.set i (s, { x with hs := kdel x.hs o }) } := by
  obtain ⟨hp, hQ⟩ := h.pls i _ hx
  have hs := h.tabS
  obtain ⟨l1, l2, l3⟩ := hs.loP i _ hx
  obtain ⟨ob, hrun, hg⟩ := gmap_delete (P := Try.prog) (ty := 0) Try.underlying68 Try.underlying29 hp.hl o 29
  have ht := turn1_obj w x.H ob
  have hhs : hsV (kdel x.hs o) = gdel (hsV x.hs) o := (gdel_map (fun a : Int × Int => (a.1, Value.int .i64 a.2)) (fun _ => rfl) x.hs o).symm
  refine ⟨_, fun ty => hrun, ht, (hs.turn l2 ht (h.held hx (hs := kdel x.hs o) (by rw [hhs]; exact hg) (fun k _ hk => ht.2.2.2.2 k hk)) hs.lo (fun k y hy => ?_) hs.loN).stp rfl⟩
  rcases set_cases hy with ⟨rfl, rfl, -⟩ | ⟨-, h9⟩
  · exact ⟨l1, l2, l3⟩
  · exact hs.loP k y h9
theorem TabR.placeDel_r {w : World} {t : TV} (h : TabR w t) (s : ByteArray) :
    ∃ w', (∀ ty, (Builtin.delete_ #[62, 9] ty #[.map (some t.P), .string s]).run Try.prog w = .ok (.tuple #[]) w') ∧ Turn1 w w' t.P ∧ Stp w t w' { t with pl := kdel t.pl s } := by
  obtain ⟨ob, hrun, hg⟩ := gmap_delete (P := Try.prog) (ty := 0) Try.underlying62 Try.underlying9 h.tab.pl s 9
  have ht := turn1_obj w t.P ob
  obtain ⟨f, -, hx⟩ := kdel_idx t.pl s
  have hs := h.tabS
  exact ⟨_, fun ty => hrun, ht, (hs.turn hs.lo.2.1 ht (h.placeDel s hg (fun k _ hk => ht.2.2.2.2 k hk)) hs.lo (fun i y hy => hs.loP _ y (hx i y hy)) hs.loN).stp rfl⟩
/-- a place's queue is laid anew, in the block that it had -/
theorem TabR.queueSet_r {w : World} {t : TV} (h : TabR w t) {i : Nat} {s : ByteArray} {x : PV} (hx : t.pl[i]? = some (s, x)) {q : Value} {qs : List (Int × Int)} (hq : QAt w q qs) (hqb : ∀ g, qblk q = some g → qblk x.q = some g) :
    Turn1 w (w.setCell ⟨x.p, 1, none⟩ q) x.p ∧ Stp w t (w.setCell ⟨x.p, 1, none⟩ q) { t with pl := t.pl.set i (s, { x with q := q, qs := qs }) } := by
  obtain ⟨hp, hQ⟩ := h.pls i _ hx
  have hs := h.tabS
  obtain ⟨l1, l2, l3⟩ := hs.loP i _ hx
  have ht : Turn1 w (w.setCell ⟨x.p, 1, none⟩ q) x.p := ⟨setCell_sizeL _ _ _, by unfold World.setCell; split <;> rfl, by unfold World.setCell; split <;> rfl, by unfold World.setCell; split <;> rfl, fun k hk => setCell_heapL _ _ _ _ hk⟩
  refine ⟨ht, (hs.turn l1 ht (h.queue hx (setCell_blkL hp.blk _) (hq.keep (fun g hg => ht.2.2.2.2 g (fun e => ?_))) (fun g hg => .inl (hqb g hg)) (fun k _ hk _ => ht.2.2.2.2 k hk)) hs.lo (fun k y hy => ?_) hs.loN).stp rfl⟩
  · obtain ⟨cur, hc⟩ := hq.blk hg
    exact cells_ty_ne hc hp.blk (by decide) e
  · rcases set_cases hy with ⟨rfl, rfl, -⟩ | ⟨-, h9⟩
    · exact ⟨l1, l2, fun g hg => l3 g (hqb g hg)⟩
    · exact hs.loP k y h9
/-- a place's queue is laid anew behind a call that has turned its block, and cells of a place -/
theorem TabR.queueTurn_r {w w1 : World} {t : TV} (h : TabR w t) {i : Nat} {s : ByteArray} {x : PV} (hx : t.pl[i]? = some (s, x)) {q : Value} {qs : List (Int × Int)} (hq : QAt w1 q qs) (hqb : ∀ g, qblk q = some g → qblk x.q = some g)
    (hk : ∀ k, k < w.heap.size → (∀ g, qblk x.q = some g → k ≠ g) → w1.heap[k]? = w.heap[k]?) (hsz : w.heap.size ≤ w1.heap.size) (h1 : w1.os = w.os) (h2 : w1.tape = w.tape) (h3 : w1.output = w.output) :
    Stp w t (w1.setCell ⟨x.p, 1, none⟩ q) { t with pl := t.pl.set i (s, { x with q := q, qs := qs }) } := by
  obtain ⟨hp, hQ⟩ := h.pls i _ hx
  have hs := h.tabS
  obtain ⟨l1, l2, l3⟩ := hs.loP i _ hx
  have hpl := (Array.getElem?_eq_some_iff.1 hp.blk).1
  have hpq : ∀ g, qblk x.q = some g → x.p ≠ g := fun g hg => by obtain ⟨cur, hc⟩ := hQ.blk hg; exact cells_ty_ne hp.blk hc (by decide)
  have hp1 : w1.heap[x.p]? = _ := (hk x.p hpl hpq).trans hp.blk
  have hk2 : ∀ k, k < w.heap.size → k ≠ x.p → (∀ g, qblk x.q = some g → k ≠ g) → (w1.setCell ⟨x.p, 1, none⟩ q).heap[k]? = w.heap[k]? := fun k hk9 hkp hkg => by
    rw [setCell_heapL _ _ _ _ hkp]; exact hk k hk9 hkg
  refine TabS.stp ⟨h.queue hx (setCell_blkL hp1 _) (hq.keep (fun g hg => ?_)) (fun g hg => .inl (hqb g hg)) hk2, hs.bl.step (by rw [setCell_sizeL]; exact hsz) (by unfold World.setCell; split <;> exact h1) (by unfold World.setCell; split <;> exact h2) (by unfold World.setCell; split <;> exact h3) (fun k hkS => hk2 k (hs.bl.lt2 hkS) (fun e => l1 (e ▸ hkS)) (fun g hg e => l3 g hg (e ▸ hkS))), hs.lo, fun k y hy => ?_, hs.loN⟩ rfl
  · refine setCell_heapL _ _ _ _ (fun e => ?_)
    exact hpq g (hqb g hg) e.symm
  · rcases set_cases hy with ⟨rfl, rfl, -⟩ | ⟨-, h9⟩
    · exact ⟨l1, l2, fun g hg => l3 g (hqb g hg)⟩
    · exact hs.loP k y h9
end Mun
end

section
/- Plain: what a queue's pops leave. -/
set_option maxRecDepth 100000
set_option linter.unusedVariables false
set_option linter.unusedSimpArgs false
namespace Mun
open Go Go.RowKit
open Go.Proofs

theorem klook_kdel {κ β : Type} [DecidableEq κ] : ∀ {l : List (κ × β)} (hn : (l.map (·.1)).Nodup) (k n : κ), klook (kdel l k) n = if n = k then none else klook l n
  | [], _, k, n => by simp [kdel, klook]
  | a :: l, hn, k, n => by
    rw [List.map_cons, List.nodup_cons] at hn
    by_cases e : a.1 = k
    · simp only [kdel, e, if_true]
      rw [klook_cons]
      by_cases h : n = k
      · rw [if_pos h]
        cases hl : klook l n with
        | none => rfl
        | some v =>
          obtain ⟨i, hi, -⟩ := klook_set hl
          exfalso
          refine hn.1 ?_
          rw [e, ← h]
          exact List.mem_map.2 ⟨_, List.mem_of_getElem? hi, rfl⟩
      · rw [if_neg h, e, if_neg (Ne.symm h)]
    · simp only [kdel, e, if_false]
      rw [klook_cons, klook_cons, klook_kdel hn.2 k n]
      by_cases h : a.1 = n
      · rw [if_pos h, if_pos h]
        by_cases h2 : n = k
        · exact absurd (h.trans h2) e
        · rw [if_neg h2]
      · rw [if_neg h, if_neg h]

theorem kdel_keys {κ β : Type} [DecidableEq κ] : ∀ (l : List (κ × β)) (k : κ), (kdel l k).map (·.1) = (l.map (·.1)).erase k
  | [], k => rfl
  | a :: l, k => by
    by_cases e : a.1 = k
    · simp [kdel, e]
    · simp [kdel, e, kdel_keys l k, List.erase_cons]

theorem kset_keys {κ β : Type} [DecidableEq κ] {l : List (κ × β)} {k : κ} (h : k ∉ l.map (·.1)) (v : β) : (kset l k v).map (·.1) = l.map (·.1) ++ [k] := by
  have hn : klook l k = none := by
    cases hl : klook l k with
    | none => rfl
    | some y =>
      obtain ⟨i, hi, -⟩ := klook_set hl
      exact absurd (List.mem_map.2 ⟨_, List.mem_of_getElem? hi, rfl⟩) h
  rw [kset_new hn]
  simp

theorem popQ_split : ∀ (qs hs : List (Int × Int)), (popQ hs qs).2.2 ++ (popQ hs qs).2.1 = qs
  | [], hs => rfl
  | a :: qs, hs => by
    unfold popQ
    split
    · simp only [List.cons_append, popQ_split qs]
    · rfl

theorem popQ_head : ∀ (qs hs : List (Int × Int)) (b : Int × Int) (rest : List (Int × Int)), (popQ hs qs).2.1 = b :: rest → goesP (hsV (popQ hs qs).1) b.1 b.2 = false
  | [], hs, b, rest, h => by cases h
  | a :: qs, hs, b, rest, h => by
    unfold popQ at h ⊢
    split
    · rename_i hg
      rw [if_pos hg] at h
      exact popQ_head qs _ b rest h
    · rename_i hg
      rw [if_neg hg] at h
      injection h with h1 h2
      subst h1
      simpa using hg

theorem popQ_keys : ∀ (qs hs : List (Int × Int)), (hs.map (·.1) ++ qs.map (·.1)).Nodup → (popQ hs qs).1.map (·.1) = hs.map (·.1) ++ (popQ hs qs).2.2.map (·.1)
  | [], hs, _ => by simp [popQ]
  | a :: qs, hs, hn => by
    unfold popQ
    split
    · have hk : a.1 ∉ hs.map (·.1) := fun h => by
        rw [List.nodup_append] at hn
        exact hn.2.2 _ h _ (by simp) rfl
      have h1 := kset_keys hk a.2
      rw [popQ_keys qs (kset hs a.1 a.2) (by rw [h1]; simpa using hn), h1]
      simp
    · simp

theorem nmPop_get (s : ByteArray) : ∀ (l : List (Int × Int)) (f : Int → Option (List ByteArray)), (l.map (·.1)).Nodup → (∀ a ∈ l, f a.1 = none) → ∀ u, nmPop s l f u = if u ∈ l.map (·.1) then some [s] else f u
  | [], f, _, _, u => by simp [nmPop]
  | a :: l, f, hn, hf, u => by
    rw [List.map_cons, List.nodup_cons] at hn
    have ha := hf a (by simp)
    have h := nmPop_get s l (fun u => if u = a.1 then some (sadd ((f a.1).getD []) s) else f u) hn.2 (fun b hb => by
      have hba : b.1 ≠ a.1 := fun e => hn.1 (by rw [← e]; exact List.mem_map.2 ⟨b, hb, rfl⟩)
      show (if b.1 = a.1 then _ else f b.1) = none
      rw [if_neg hba]
      exact hf b (by simp [hb])) u
    show nmPop s l _ u = _
    rw [h]
    by_cases hu : u = a.1
    · subst hu
      have : a.1 ∉ l.map (·.1) := hn.1
      simp [this, ha, sadd]
    · by_cases hl : u ∈ l.map (·.1)
      · simp [hl]
      · rw [if_neg hl, if_neg hu, if_neg (by simp only [List.map_cons, List.mem_cons, not_or]; exact ⟨hu, hl⟩)]

theorem goesP_nil (o m : Int) : goesP (hsV []) o m = true := by simp [goesP, hsV]
end Mun
end

section
/- What a table holds, in plain words: who holds what, who waits where; the steps of Ask and Free on it. -/
set_option maxRecDepth 100000
set_option linter.unusedVariables false
set_option linter.unusedSimpArgs false
namespace Mun
open Go Go.RowKit
open Go.Proofs

/-- who holds what, who waits where -/
structure AS where
  H : ByteArray → Int → Option Int
  Q : ByteArray → List (Int × Int)
theorem AS.ext' {A B : AS} (h1 : ∀ s u, A.H s u = B.H s u) (h2 : ∀ s, A.Q s = B.Q s) : A = B := by
  cases A; cases B
  simp only [AS.mk.injEq]
  exact ⟨funext fun s => funext fun u => h1 s u, funext h2⟩

def upd (h : Int → Option Int) (o : Int) (v : Option Int) : Int → Option Int := fun u => if u = o then v else h u
def updS {β : Type} (f : ByteArray → β) (s : ByteArray) (v : β) : ByteArray → β := fun s' => if s' = s then v else f s'
theorem updS_self {β : Type} (f : ByteArray → β) (s : ByteArray) (v : β) : updS f s v s = v := if_pos rfl
theorem updS_other {β : Type} (f : ByteArray → β) {s s' : ByteArray} (v : β) (h : s' ≠ s) : updS f s v s' = f s' := if_neg h
theorem updS_same {β : Type} (f : ByteArray → β) (s : ByteArray) : updS f s (f s) = f := by
  funext s'; unfold updS; split
  · rename_i h; rw [h]
  · rfl

/-- do all others' modes go together with a mode? -/
def GoesF (h : Int → Option Int) (o m : Int) : Prop := ∀ u k, h u = some k → u ≠ o → tog k m = true
open Classical in
noncomputable def popF : (Int → Option Int) → List (Int × Int) → (Int → Option Int) × List (Int × Int) × List (Int × Int)
  | h, [] => (h, [], [])
  | h, a :: qs => if GoesF h a.1 a.2 then ((popF (upd h a.1 (some a.2)) qs).1, (popF (upd h a.1 (some a.2)) qs).2.1, a :: (popF (upd h a.1 (some a.2)) qs).2.2) else (h, a :: qs, [])
theorem popF_yes {h : Int → Option Int} {a : Int × Int} (hg : GoesF h a.1 a.2) (qs : List (Int × Int)) : popF h (a :: qs) = ((popF (upd h a.1 (some a.2)) qs).1, (popF (upd h a.1 (some a.2)) qs).2.1, a :: (popF (upd h a.1 (some a.2)) qs).2.2) := by
  rw [popF, if_pos hg]
theorem popF_no {h : Int → Option Int} {a : Int × Int} (hg : ¬ GoesF h a.1 a.2) (qs : List (Int × Int)) : popF h (a :: qs) = (h, a :: qs, []) := by
  rw [popF, if_neg hg]
theorem popF_split : ∀ (qs : List (Int × Int)) (h : Int → Option Int), (popF h qs).2.2 ++ (popF h qs).2.1 = qs
  | [], h => rfl
  | a :: qs, h => by
    by_cases hg : GoesF h a.1 a.2
    · rw [popF_yes hg]; simp only [List.cons_append, popF_split qs]
    · rw [popF_no hg]; rfl

theorem klook_mem {κ β : Type} [DecidableEq κ] {l : List (κ × β)} (hn : (l.map (·.1)).Nodup) {p : κ × β} (hp : p ∈ l) : klook l p.1 = some p.2 := by
  induction l with
  | nil => simp at hp
  | cons a l ih =>
    rw [List.map_cons, List.nodup_cons] at hn
    rw [klook_cons]
    rcases List.mem_cons.1 hp with rfl | hp
    · rw [if_pos rfl]
    · rw [if_neg (fun e => hn.1 (by rw [e]; exact List.mem_map_of_mem hp))]
      exact ih hn.2 hp
theorem klook_in {κ β : Type} [DecidableEq κ] {l : List (κ × β)} {k : κ} {v : β} (h : klook l k = some v) : (k, v) ∈ l := by
  obtain ⟨i, hi, -⟩ := klook_set h
  exact List.mem_of_getElem? hi
theorem klook_isSome {κ β : Type} [DecidableEq κ] (l : List (κ × β)) (k : κ) : klook l k ≠ none ↔ k ∈ l.map (·.1) := by
  constructor
  · intro h
    cases hk : klook l k with
    | none => exact absurd hk h
    | some v => exact List.mem_map.2 ⟨_, klook_in hk, rfl⟩
  · intro h
    induction l with
    | nil => simp at h
    | cons a l ih =>
      rw [klook_cons]
      by_cases e : a.1 = k
      · rw [if_pos e]; simp
      · rw [if_neg e]
        refine ih ?_
        rcases List.mem_cons.1 h with h9 | h9
        · exact absurd h9.symm e
        · exact h9
theorem klook_setAt {κ β : Type} [DecidableEq κ] {l : List (κ × β)} (hn : (l.map (·.1)).Nodup) {i : Nat} {k : κ} {x : β} (hi : l[i]? = some (k, x)) (x' : β) (n : κ) : klook (l.set i (k, x')) n = if n = k then some x' else klook l n := by
  have h1 : klook l k = some x := klook_mem hn (List.mem_of_getElem? hi)
  have h2 : l.set i (k, x') = kset l k x' := by
    induction l generalizing i with
    | nil => simp at hi
    | cons a l ih =>
      rw [List.map_cons, List.nodup_cons] at hn
      cases i with
      | zero =>
        injection hi with hi
        subst hi
        simp [kset]
      | succ i =>
        have hne : a.1 ≠ k := fun e => hn.1 (by rw [e]; exact List.mem_map.2 ⟨_, List.mem_of_getElem? (by simpa using hi), rfl⟩)
        simp only [List.set_cons_succ, kset, if_neg hne]
        rw [ih hn.2 (by simpa using hi) (klook_mem hn.2 (List.mem_of_getElem? (by simpa using hi)))]
  rw [h2, klook_kset]

theorem goesP_F {hs : List (Int × Int)} (hn : (hs.map (·.1)).Nodup) (o m : Int) : goesP (hsV hs) o m = true ↔ GoesF (klook hs) o m := by
  unfold goesP hsV GoesF
  rw [List.all_eq_true]
  constructor
  · intro h u k hk hne
    have h9 := h (u, Value.int .i64 k) (List.mem_map.2 ⟨(u, k), klook_in hk, rfl⟩)
    simpa [hne] using h9
  · intro h p hp
    obtain ⟨a, ha, rfl⟩ := List.mem_map.1 hp
    by_cases e : a.1 = o
    · simp [e]
    · simp [e, h a.1 a.2 (klook_mem hn ha) e]
theorem klook_kset_upd (hs : List (Int × Int)) (o m : Int) : klook (kset hs o m) = upd (klook hs) o (some m) := by
  funext u; rw [klook_kset]; rfl
theorem klook_kdel_upd {hs : List (Int × Int)} (hn : (hs.map (·.1)).Nodup) (o : Int) : klook (kdel hs o) = upd (klook hs) o none := by
  funext u; rw [klook_kdel hn]; rfl
theorem kset_nodup {hs : List (Int × Int)} (hn : (hs.map (·.1)).Nodup) (o m : Int) : ((kset hs o m).map (·.1)).Nodup := by
  by_cases h : o ∈ hs.map (·.1)
  · obtain ⟨v, hv⟩ : ∃ v, klook hs o = some v := by
      cases hk : klook hs o with
      | none => exact absurd hk ((klook_isSome hs o).2 h)
      | some v => exact ⟨v, rfl⟩
    obtain ⟨i, hi, hset⟩ := klook_set hv
    rw [hset m]
    have : (hs.set i (o, m)).map (·.1) = hs.map (·.1) := by
      rw [List.map_set]
      obtain ⟨hl, he⟩ := List.getElem?_eq_some_iff.1 hi
      have h9 := @List.set_getElem_self _ (hs.map (·.1)) i (by simpa using hl)
      simpa [he] using h9
    rw [this]; exact hn
  · rw [kset_keys h]
    rw [List.nodup_append]
    exact ⟨hn, by simp, fun a ha b hb e => h (by simp at hb; rw [← hb, ← e]; exact ha)⟩

/-- a table holds this: who holds what, who waits where; whom the map of waiting ones tells; what names owners have -/
structure Rp (t : TV) (H : ByteArray → Int → Option Int) (Q : ByteArray → List (Int × Int)) (W : Int → ByteArray → Int → Prop) (N : Int → ByteArray → Prop) : Prop where
  pl : ∀ s x, klook t.pl s = some x → klook x.hs = H s ∧ x.qs = Q s
  pn : ∀ s, klook t.pl s = none → (∀ u, H s u = none) ∧ Q s = []
  ws : ∀ u s m, klook t.ws u = some (s, m) ↔ W u s m
  nm : ∀ u s, s ∈ (nmGet t.nm u).getD [] ↔ N u s

theorem TabR.plNodup {w : World} {t : TV} (h : TabR w t) : (t.pl.map (·.1)).Nodup := by
  have h1 := gmap_nodup' h.tab.pl
  simpa [plV, List.map_map, Function.comp_def] using h1
where
  gmap_nodup' {α : Type} [DecidableEq α] [KeyT α] {w : World} {M : Nat} {es : List (α × Value)} (h : GMap w M es) : (es.map (·.1)).Nodup := by
    obtain ⟨l, c, ⟨h1, -⟩, rfl⟩ := h
    simpa [List.map_map, Function.comp_def] using h1
theorem gmap_nodup2 {α : Type} [DecidableEq α] [KeyT α] {w : World} {M : Nat} {es : List (α × Value)} (h : GMap w M es) : (es.map (·.1)).Nodup := by
  obtain ⟨l, c, ⟨h1, -⟩, rfl⟩ := h
  simpa [List.map_map, Function.comp_def] using h1
theorem TabR.nmNodup {w : World} {t : TV} (h : TabR w t) : (t.nm.map (·.1)).Nodup := by
  have h1 := gmap_nodup2 h.tab.nm
  simpa [nmV, List.map_map, Function.comp_def] using h1
theorem TabR.wsNodup {w : World} {t : TV} (h : TabR w t) : (t.ws.map (·.1)).Nodup := by
  have h1 := gmap_nodup2 h.tab.wt
  simpa [wsV, List.map_map, Function.comp_def] using h1
theorem TabR.hsNodup {w : World} {t : TV} (h : TabR w t) {i : Nat} {x : ByteArray × PV} (hx : t.pl[i]? = some x) : (x.2.hs.map (·.1)).Nodup := by
  have h1 := gmap_nodup2 (h.pls i x hx).1.hl
  simpa [hsV, List.map_map, Function.comp_def] using h1

section
variable {t : TV} {H : ByteArray → Int → Option Int} {Q : ByteArray → List (Int × Int)} {W : Int → ByteArray → Int → Prop} {N : Int → ByteArray → Prop}

theorem Rp.place (h : Rp t H Q W N) (hn : (t.pl.map (·.1)).Nodup) {i : Nat} {s : ByteArray} {x x' : PV} (hx : t.pl[i]? = some (s, x)) {hf : Int → Option Int} {q : List (Int × Int)} (h1 : klook x'.hs = hf) (h2 : x'.qs = q) :
    Rp { t with pl := t.pl.set i (s, x') } (updS H s hf) (updS Q s q) W N := by
  refine ⟨fun s2 y hy => ?_, fun s2 hy => ?_, h.ws, h.nm⟩
  · have hy2 : klook (t.pl.set i (s, x')) s2 = some y := hy
    rw [klook_setAt hn hx] at hy2
    by_cases e : s2 = s
    · rw [if_pos e] at hy2
      injection hy2 with hy2
      subst hy2
      subst e
      rw [updS_self, updS_self]
      exact ⟨h1, h2⟩
    · rw [if_neg e] at hy2
      rw [updS_other _ _ e, updS_other _ _ e]
      exact h.pl s2 y hy2
  · have hy2 : klook (t.pl.set i (s, x')) s2 = none := hy
    rw [klook_setAt hn hx] at hy2
    by_cases e : s2 = s
    · rw [if_pos e] at hy2; cases hy2
    · rw [if_neg e] at hy2
      rw [updS_other _ _ e, updS_other _ _ e]
      exact h.pn s2 hy2
theorem Rp.nameDel (h : Rp t H Q W N) (hn : (t.nm.map (·.1)).Nodup) (o : Int) : Rp { t with nm := kdel t.nm o } H Q W (fun u s => u ≠ o ∧ N u s) := by
  refine ⟨h.pl, h.pn, h.ws, fun u s => ?_⟩
  show s ∈ (nmGet (kdel t.nm o) u).getD [] ↔ _
  unfold nmGet
  rw [klook_kdel hn]
  by_cases e : u = o
  · simp [e]
  · rw [if_neg e]
    have h9 := h.nm u s
    unfold nmGet at h9
    rw [h9]
    simp [e]
theorem Rp.waitsDel (h : Rp t H Q W N) (hn : (t.ws.map (·.1)).Nodup) (o : Int) : Rp { t with ws := kdel t.ws o } H Q (fun u s m => u ≠ o ∧ W u s m) N := by
  refine ⟨h.pl, h.pn, fun u s m => ?_, h.nm⟩
  show klook (kdel t.ws o) u = _ ↔ _
  rw [klook_kdel hn]
  by_cases e : u = o
  · simp [e]
  · rw [if_neg e, h.ws u s m]
    simp [e]
theorem mem_sadd (l : List ByteArray) (s s' : ByteArray) : s' ∈ sadd l s ↔ s' ∈ l ∨ s' = s := by
  induction l with
  | nil => simp [sadd]
  | cons a l ih =>
    unfold sadd
    by_cases e : a = s
    · rw [if_pos e]
      simp only [List.mem_cons]
      constructor
      · rintro (h | h)
        · exact .inr h
        · exact .inl (.inr h)
      · rintro ((h | h) | h)
        · exact .inl (h.trans e)
        · exact .inr h
        · exact .inl h
    · rw [if_neg e]
      simp only [List.mem_cons, ih]
      constructor
      · rintro (h | h | h)
        · exact .inl (.inl h)
        · exact .inl (.inr h)
        · exact .inr h
      · rintro ((h | h) | h)
        · exact .inl h
        · exact .inr (.inl h)
        · exact .inr (.inr h)
theorem Rp.hold (h : Rp t H Q W N) (hn : (t.pl.map (·.1)).Nodup) {i : Nat} {s : ByteArray} {x : PV} (hx : t.pl[i]? = some (s, x)) (o m : Int) {nm : List (Int × (Nat × List ByteArray))} (hnm : NmIs nm t.nm o s) :
    Rp (held1 t i (s, x) o m nm) (updS H s (upd (H s) o (some m))) Q W (fun u s' => N u s' ∨ (u = o ∧ s' = s)) := by
  have hk := klook_mem hn (List.mem_of_getElem? hx)
  have h1 := h.pl s x hk
  have h2 := h.place hn hx (x' := { x with hs := kset x.hs o m }) (hf := upd (H s) o (some m)) (q := Q s) (by rw [klook_kset_upd, h1.1]) h1.2
  rw [updS_same] at h2
  refine ⟨h2.pl, h2.pn, h2.ws, fun u s' => ?_⟩
  show s' ∈ (nmGet nm u).getD [] ↔ _
  have h9 := hnm u
  unfold nmGet
  rw [h9]
  have h8 := h.nm u s'
  unfold nmGet at h8
  by_cases e : u = o
  · subst e
    rw [if_pos rfl]
    simp only [Option.getD_some, mem_sadd, true_and]
    rw [h8]
  · rw [if_neg e, h8]
    simp [e]
theorem Rp.placeDel (h : Rp t H Q W N) (hn : (t.pl.map (·.1)).Nodup) {s : ByteArray} (h1 : ∀ u, H s u = none) (h2 : Q s = []) : Rp { t with pl := kdel t.pl s } H Q W N := by
  refine ⟨fun s2 y hy => ?_, fun s2 hy => ?_, h.ws, h.nm⟩
  · have hy2 : klook (kdel t.pl s) s2 = some y := hy
    rw [klook_kdel hn] at hy2
    by_cases e : s2 = s
    · rw [if_pos e] at hy2; cases hy2
    · rw [if_neg e] at hy2; exact h.pl s2 y hy2
  · have hy2 : klook (kdel t.pl s) s2 = none := hy
    rw [klook_kdel hn] at hy2
    by_cases e : s2 = s
    · subst e; exact ⟨h1, h2⟩
    · rw [if_neg e] at hy2; exact h.pn s2 hy2
theorem Rp.cong {H' : ByteArray → Int → Option Int} {Q' : ByteArray → List (Int × Int)} {W' : Int → ByteArray → Int → Prop} {N' : Int → ByteArray → Prop} (h : Rp t H Q W N) (h1 : ∀ s u, H s u = H' s u) (h2 : ∀ s, Q s = Q' s) (h3 : ∀ u s m, W u s m ↔ W' u s m) (h4 : ∀ u s, N u s ↔ N' u s) : Rp t H' Q' W' N' := by
  obtain rfl : H = H' := funext fun s => funext fun u => h1 s u
  obtain rfl : Q = Q' := funext h2
  exact ⟨h.pl, h.pn, fun u s m => (h.ws u s m).trans (h3 u s m), fun u s => (h.nm u s).trans (h4 u s)⟩
end
end Mun
end

section
/- The keys of a set of names, sorted. -/
set_option maxRecDepth 100000
set_option linter.unusedVariables false
set_option linter.unusedSimpArgs false
namespace Mun
open Go Go.RowKit Go.Maps Go.Sort Go.Shelf
open Go.Proofs

theorem insert_perm {H : Type} (x : Lit × DataW H) : ∀ l : List (Lit × DataW H), (DataW.insert x l).Perm (x :: l)
  | [] => List.Perm.refl _
  | y :: r => by
    unfold DataW.insert
    split
    · exact List.Perm.refl _
    · exact ((insert_perm x r).cons y).trans (List.Perm.swap x y r)
theorem insertAll_perm {H : Type} : ∀ l : List (Lit × DataW H), (l.foldr DataW.insert []).Perm l
  | [] => List.Perm.refl _
  | x :: l => (insert_perm x _).trans ((insertAll_perm l).cons x)

def litStr (s : ByteArray) : Lit × DataW Unit := (.string s.data.toList, .nil)
/-- a set of names as a datum -/
def mapS (es : List ByteArray) : DataW Unit := .map ((es.map litStr).foldr DataW.insert [])
theorem mapS_keys (es : List ByteArray) : (strKeys (mapS es)).Perm (es.map fun s => s.data.toList) := by
  have h := (insertAll_perm (es.map litStr)).map fun p => Go.strOf p.1
  rw [List.map_map] at h
  exact h
theorem mapS_size (es : List ByteArray) : Maps.size (mapS es) = es.length := by
  show ((es.map litStr).foldr DataW.insert []).length = _
  rw [(insertAll_perm _).length_eq, List.length_map]

theorem owns_set (w : World) (M : Nat) (es : List ByteArray) (hs : ∀ s ∈ es, s.size ≤ maxLen) (hl : es.length ≤ maxLen) (h : GMap w M (setV es)) : w.ownsMap (H := Unit) Try.prog 9 (fun _ => some (.nil, [])) M es.length (mapS es) := by
  obtain ⟨l, c, ⟨h1, h2, h3, h4⟩, he⟩ := h
  have hlen : l.length = es.length := by have := congrArg List.length he; simpa [setV] using this
  have hrd : ∀ x ∈ (gEntries l).toList, ∃ s ∈ es, x.key = .string s ∧ Go.WideElems.rd (H := Unit) Try.prog 9 (fun _ => some (.nil, [])) x = some (litStr s) := by
    intro x hx
    have hx2 : x ∈ l.map fun p => ({ key := KeyT.ek p.1.1, val := p.1.2, born := p.2 } : MapEntry) := by simpa [gEntries] using hx
    obtain ⟨p, hp, rfl⟩ := List.mem_map.1 hx2
    have hm : p.1 ∈ setV es := by rw [← he]; exact List.mem_map_of_mem hp
    obtain ⟨s, hs1, hs2⟩ := List.mem_map.1 hm
    have hp1 : p.1.1 = s := by rw [← hs2]
    have hk := keyOf_string (P := Try.prog) Try.underlying9 (.string s)
    refine ⟨s, hs1, by rw [hp1]; rfl, ?_⟩
    rw [hp1]
    show Go.WideElems.rd Try.prog 9 _ ⟨.string s, _, _⟩ = _
    simp [Go.WideElems.rd, hk, mapKey, Try.underlying9, hs s hs1, litStr]
  refine ⟨_, c, h4, ⟨by simp [gEntries]; omega, ?_, fun x hx => by obtain ⟨s, -, -, h9⟩ := hrd x hx; exact ⟨_, h9⟩⟩, by simp [gEntries]; omega, ?_⟩
  · refine ⟨fun x hx => ?_, ?_, ?_⟩
    · have hx2 : x ∈ l.map fun p => ({ key := KeyT.ek p.1.1, val := p.1.2, born := p.2 } : MapEntry) := by simpa [gEntries] using hx
      obtain ⟨p, hp, rfl⟩ := List.mem_map.1 hx2
      exact h3 p hp
    · simpa [gEntries, List.map_map, Function.comp_def] using h2
    · have h9 : (gEntries l).toList.map (·.key) = (l.map (·.1.1)).map Value.string := by simp [gEntries, List.map_map, Function.comp_def]; intro a b c d; rfl
      rw [h9]
      exact List.Pairwise.map Value.string (fun a b (hab : a ≠ b) e => hab (by injection e)) h1
  · show mapS es = .map (((gEntries l).toList.map _).foldr DataW.insert [])
    unfold mapS
    congr 2
    have h8 : (gEntries l).toList = l.map fun p => ({ key := KeyT.ek p.1.1, val := p.1.2, born := p.2 } : MapEntry) := by simp [gEntries]
    rw [h8, List.map_map, show es = l.map (fun p => p.1.1) by
      have h7 := congrArg (List.map (·.1)) he
      simpa [setV, List.map_map, Function.comp_def] using h7.symm, List.map_map]
    apply List.map_congr_left
    intro p hp
    obtain ⟨s, hs1, hs2, hs3⟩ := hrd ⟨KeyT.ek p.1.1, p.1.2, p.2⟩ (by rw [h8]; exact List.mem_map_of_mem hp)
    have hk : p.1.1 = s := by
      have h9 : Value.string p.1.1 = .string s := hs2
      injection h9
    show litStr p.1.1 = Go.WideElems.rg Try.prog 9 _ ⟨KeyT.ek p.1.1, p.1.2, p.2⟩
    rw [Go.WideElems.rg_of hs3, hk]

/-- bytes, lexically -/
def leN (a b : ByteArray) : Prop := a.data.toList ≤ b.data.toList
def ofL (l : List UInt8) : ByteArray := ⟨l.toArray⟩
theorem ofL_toList (s : ByteArray) : ofL s.data.toList = s := by cases s; simp [ofL]

theorem rowU_mono' {w : World} {B B' : Nat} {e : TypeId} {size n : Nat} {v : Value} {xs : List Value} (h : w.ownsRow B e size v n xs) (hB : B' ≤ B) : w.ownsRow B' e size v n xs := by
  refine ⟨h.1, ?_⟩
  rcases h.2 with hn | ⟨g, cap, cur, rfl, hbg, rest⟩
  · exact .inl hn
  · exact .inr ⟨g, cap, cur, rfl, Nat.le_trans hB hbg, rest⟩

theorem names_sorted (w : World) (M : Nat) (es : List ByteArray) (hs : ∀ s ∈ es, s.size ≤ maxLen) (hl : es.length ≤ 8796093022200) (h : GMap w M (setV es)) :
    Calls Try.prog 37 #[.func (.func 55) #[] #[.pointer (some ⟨w.heap.size, 0, none⟩)]] (w.alloc (.cells #[.map (some M)] 80)) fun e w' =>
      ∃ (v : Value) (ns : List ByteArray), e = .returned v ∧ ns.Perm es ∧ ns.Pairwise leN ∧ w'.ownsRow w.heap.size 9 1 v ns.length (ns.map Value.string) ∧ Below w.heap.size w w' := by
  have hl2 : es.length ≤ maxLen := by unfold maxLen; omega
  refine (sorted_keys M es.length (mapS es) _ w (owns_set w M es hs hl2 h) (by rw [mapS_size]; exact hl2) (by rw [mapS_size]; omega)).mono ?_
  rintro e w' ⟨v, ss, rfl, hS, hrow, hnil, hb⟩
  obtain ⟨st, hst⟩ : ∃ st, ss.mergeSort (fun x y => decide (x ≤ y)) = st := ⟨_, rfl⟩
  have hp1 : st.Perm ss := by rw [← hst]; exact List.mergeSort_perm _ _
  have hp2 : st.Perm (es.map fun s => s.data.toList) := hp1.trans (hS.trans (mapS_keys es))
  have hsorted : st.Pairwise (fun x y => decide (x ≤ y) = true) := by
    rw [← hst]
    exact List.pairwise_mergeSort (fun a b c h1 h2 => by simp at h1 h2 ⊢; exact List.le_trans h1 h2) (fun a b => by simp; exact List.le_total a b) ss
  refine ⟨v, st.map ofL, rfl, ?_, ?_, ?_, ((Below.refl _ w).alloc (Nat.le_refl _) _).trans (hb.mono (by simp))⟩
  · have h9 := hp2.map ofL
    rw [List.map_map] at h9
    have h8 : es.map (ofL ∘ fun s => s.data.toList) = es := by
      conv => rhs; rw [← List.map_id es]
      exact List.map_congr_left (fun s _ => ofL_toList s)
    rw [h8] at h9
    exact h9
  · rw [List.pairwise_map]
    exact hsorted.imp (fun {a b} h9 => by
      have h8 : a ≤ b := by simpa using h9
      simpa [leN, ofL] using h8)
  · have h9 := hrow
    rw [hst] at h9
    rw [List.length_map, List.map_map, hp1.length_eq]
    have h8 : st.map (Value.string ∘ ofL) = st.map encStr := List.map_congr_left (fun l _ => rfl)
    rw [h8]
    exact rowU_mono' h9 (by simp)
end Mun
end
