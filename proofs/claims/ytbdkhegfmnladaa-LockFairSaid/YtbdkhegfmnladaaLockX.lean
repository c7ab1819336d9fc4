/- Free over a whole table: what each of its steps does. -/
import Derived.Test.YtbdkhegfmnladaaLockZ
import Derived.Test.YtbdkhegfmnladaaLockS
set_option maxRecDepth 100000
set_option linter.unusedVariables false
set_option linter.unusedSimpArgs false
namespace Mun
open Go Go.RowKit
open Go.Proofs

/-- one block has turned -/
def Turn1 (w w' : World) (B : Nat) : Prop := w'.heap.size = w.heap.size ∧ w'.os = w.os ∧ w'.tape = w.tape ∧ w'.output = w.output ∧ ∀ k, k ≠ B → w'.heap[k]? = w.heap[k]?
theorem turn1_obj (w : World) (B : Nat) (o : Obj) : Turn1 w (setObjW w B o) B := ⟨setObjW_size _ _ _, rfl, rfl, rfl, fun k hk => setObjW_other _ _ _ _ hk⟩
theorem Turn1.cells {w w' : World} {B b : Nat} {cs : Array Value} {ty : TypeId} {fr : Nat × Nat} (h : Turn1 w w' B) (hb : w.heap[b]? = some (.cells cs ty fr)) (hne : b ≠ B) : w'.heap[b]? = some (.cells cs ty fr) := (h.2.2.2.2 b hne).trans hb

theorem TabL.turn {W0 w w' : World} {t t' : TV} {B : Nat} (h : TabL W0 w t) (hB : W0.heap.size ≤ B) (ht : Turn1 w w' B) (hr : TabR w' t') (hlo : W0.heap.size ≤ t'.T ∧ W0.heap.size ≤ t'.P ∧ W0.heap.size ≤ t'.W ∧ W0.heap.size ≤ t'.N)
    (hp : ∀ (i : Nat) (x : ByteArray × PV), t'.pl[i]? = some x → W0.heap.size ≤ x.2.p ∧ W0.heap.size ≤ x.2.H ∧ ∀ g, qblk x.2.q = some g → W0.heap.size ≤ g)
    (hn : ∀ (i : Nat) (y : Int × (Nat × List ByteArray)), t'.nm[i]? = some y → W0.heap.size ≤ y.2.1) : TabL W0 w' t' := by
  obtain ⟨h1, h2, h3, h4, h5⟩ := ht
  exact ⟨hr, ⟨h2.trans h.bl.os, h3.trans h.bl.tape, h4.trans h.bl.output, by rw [h1]; exact h.bl.size, fun k hk => by rw [h5 k (by omega), h.bl.block k hk]⟩, hlo, hp, hn⟩

theorem del_ty (a : Array TypeId) (ty ty' : TypeId) (b : Array Value) : Builtin.delete_ a ty b = Builtin.delete_ a ty' b := rfl

/-- an owner's names are taken out -/
theorem TabL.nameDel {W0 w : World} {t : TV} (h : TabL W0 w t) (o : Int) :
    ∃ w', (∀ ty, (Builtin.delete_ #[64, 29] ty #[.map (some t.N), .int .u64 o]).run Try.prog w = .ok (.tuple #[]) w') ∧ Turn1 w w' t.N ∧ TabL W0 w' { t with nm := kdel t.nm o } := by
  obtain ⟨ob, hrun, hg⟩ := gmap_delete (P := Try.prog) (ty := 0) Try.underlying64 Try.underlying29 h.rep.tab.nm o 29
  have ht := turn1_obj w t.N ob
  obtain ⟨f, -, hx⟩ := kdel_idx t.nm o
  exact ⟨_, fun ty => hrun, ht, h.turn h.lo.2.2.2 ht (h.rep.nameDel o hg (fun k _ hk => ht.2.2.2.2 k hk)) h.lo h.loP (fun i y hy => h.loN _ y (hx i y hy))⟩

/-- an owner's wait is taken out -/
theorem TabL.waitsDel {W0 w : World} {t : TV} (h : TabL W0 w t) (o : Int) :
    ∃ w', (∀ ty, (Builtin.delete_ #[63, 29] ty #[.map (some t.W), .int .u64 o]).run Try.prog w = .ok (.tuple #[]) w') ∧ Turn1 w w' t.W ∧ TabL W0 w' { t with ws := kdel t.ws o } := by
  obtain ⟨ob, hrun, hg⟩ := gmap_delete (P := Try.prog) (ty := 0) Try.underlying63 Try.underlying29 h.rep.tab.wt o 29
  have ht := turn1_obj w t.W ob
  have hws : wsV (kdel t.ws o) = gdel (wsV t.ws) o := (gdel_map (fun a : Int × (ByteArray × Int) => (a.1, Value.agg #[.string a.2.1, .int .i64 a.2.2])) (fun _ => rfl) t.ws o).symm
  exact ⟨_, fun ty => hrun, ht, h.turn h.lo.2.2.1 ht (h.rep.waits (ws := kdel t.ws o) (by rw [hws]; exact hg) (fun k _ hk => ht.2.2.2.2 k hk)) h.lo h.loP h.loN⟩

/-- a holder is taken out of a place -/
theorem TabL.heldDel {W0 w : World} {t : TV} (h : TabL W0 w t) {i : Nat} {s : ByteArray} {x : PV} (hx : t.pl[i]? = some (s, x)) (o : Int) :
    ∃ w', (∀ ty, (Builtin.delete_ #[68, 29] ty #[.map (some x.H), .int .u64 o]).run Try.prog w = .ok (.tuple #[]) w') ∧ Turn1 w w' x.H ∧ TabL W0 w' { t with pl := t.pl.set i (s, { x with hs := kdel x.hs o }) } := by
  obtain ⟨hp, hQ⟩ := h.rep.pls i _ hx
  obtain ⟨l1, l2, l3⟩ := h.loP i _ hx
  obtain ⟨ob, hrun, hg⟩ := gmap_delete (P := Try.prog) (ty := 0) Try.underlying68 Try.underlying29 hp.hl o 29
  have ht := turn1_obj w x.H ob
  have hhs : hsV (kdel x.hs o) = gdel (hsV x.hs) o := (gdel_map (fun a : Int × Int => (a.1, Value.int .i64 a.2)) (fun _ => rfl) x.hs o).symm
  refine ⟨_, fun ty => hrun, ht, h.turn l2 ht (h.rep.held hx (hs := kdel x.hs o) (by rw [hhs]; exact hg) (fun k _ hk => ht.2.2.2.2 k hk)) h.lo (fun k y hy => ?_) h.loN⟩
  rcases set_cases hy with ⟨rfl, rfl, -⟩ | ⟨-, h9⟩
  · exact ⟨l1, l2, l3⟩
  · exact h.loP k y h9

/-- a place is taken out -/
theorem TabL.placeDel {W0 w : World} {t : TV} (h : TabL W0 w t) (s : ByteArray) :
    ∃ w', (∀ ty, (Builtin.delete_ #[62, 9] ty #[.map (some t.P), .string s]).run Try.prog w = .ok (.tuple #[]) w') ∧ Turn1 w w' t.P ∧ TabL W0 w' { t with pl := kdel t.pl s } := by
  obtain ⟨ob, hrun, hg⟩ := gmap_delete (P := Try.prog) (ty := 0) Try.underlying62 Try.underlying9 h.rep.tab.pl s 9
  have ht := turn1_obj w t.P ob
  obtain ⟨f, -, hx⟩ := kdel_idx t.pl s
  exact ⟨_, fun ty => hrun, ht, h.turn h.lo.2.1 ht (h.rep.placeDel s hg (fun k _ hk => ht.2.2.2.2 k hk)) h.lo (fun i y hy => h.loP _ y (hx i y hy)) h.loN⟩

/-- a place's queue is laid anew, in the block that it had -/
theorem TabL.queueSet {W0 w : World} {t : TV} (h : TabL W0 w t) {i : Nat} {s : ByteArray} {x : PV} (hx : t.pl[i]? = some (s, x)) {q : Value} {qs : List (Int × Int)} (hq : QAt w q qs) (hqb : ∀ g, qblk q = some g → qblk x.q = some g) :
    Turn1 w (w.setCell ⟨x.p, 1, none⟩ q) x.p ∧ TabL W0 (w.setCell ⟨x.p, 1, none⟩ q) { t with pl := t.pl.set i (s, { x with q := q, qs := qs }) } := by
  obtain ⟨hp, hQ⟩ := h.rep.pls i _ hx
  obtain ⟨l1, l2, l3⟩ := h.loP i _ hx
  have ht : Turn1 w (w.setCell ⟨x.p, 1, none⟩ q) x.p := ⟨setCell_sizeL _ _ _, by unfold World.setCell; split <;> rfl, by unfold World.setCell; split <;> rfl, by unfold World.setCell; split <;> rfl, fun k hk => setCell_heapL _ _ _ _ hk⟩
  refine ⟨ht, h.turn l1 ht (h.rep.queue hx (setCell_blkL hp.blk _) (hq.keep (fun g hg => ht.2.2.2.2 g (fun e => ?_))) (fun g hg => .inl (hqb g hg)) (fun k _ hk _ => ht.2.2.2.2 k hk)) h.lo (fun k y hy => ?_) h.loN⟩
  · obtain ⟨cur, hc⟩ := hq.blk hg
    exact cells_ty_ne hc hp.blk (by decide) e
  · rcases set_cases hy with ⟨rfl, rfl, -⟩ | ⟨-, h9⟩
    · exact ⟨l1, l2, fun g hg => l3 g (hqb g hg)⟩
    · exact h.loP k y h9
end Mun
