/- Free's own row of owners; what it pops, in plain words. -/
import Derived.Test.YtbdkhegfmnladaaLockX
import Derived.Test.YtbdkhegfmnladaaBase
set_option maxRecDepth 100000
set_option linter.unusedVariables false
set_option linter.unusedSimpArgs false
namespace Mun
open Go Go.RowKit
open Go.Proofs

/-- those at the head of a queue that go together with all holders, one by one: the holders behind, the queue behind, the popped ones -/
def popQ : List (Int × Int) → List (Int × Int) → List (Int × Int) × List (Int × Int) × List (Int × Int)
  | hs, [] => (hs, [], [])
  | hs, a :: qs => if goesP (hsV hs) a.1 a.2 = true then ((popQ (kset hs a.1 a.2) qs).1, (popQ (kset hs a.1 a.2) qs).2.1, a :: (popQ (kset hs a.1 a.2) qs).2.2) else (hs, a :: qs, [])
/-- the names of owners, behind pops -/
def nmPop (s : ByteArray) : List (Int × Int) → (Int → Option (List ByteArray)) → Int → Option (List ByteArray)
  | [], f => f
  | a :: l, f => nmPop s l (fun u => if u = a.1 then some (sadd ((f a.1).getD []) s) else f u)
def nmGet (nm : List (Int × (Nat × List ByteArray))) (u : Int) : Option (List ByteArray) := (klook nm u).map (·.2)
def wsPop (l : List (Int × Int)) (ws : List (Int × (ByteArray × Int))) : List (Int × (ByteArray × Int)) := l.foldl (fun ws a => kdel ws a.1) ws
theorem nmPop_snoc (s : ByteArray) (a : Int × Int) : ∀ (l : List (Int × Int)) (f : Int → Option (List ByteArray)), nmPop s (l ++ [a]) f = fun u => if u = a.1 then some (sadd ((nmPop s l f a.1).getD []) s) else nmPop s l f u
  | [], f => rfl
  | b :: l, f => by simp only [List.cons_append, nmPop]; exact nmPop_snoc s a l _
theorem wsPop_snoc (l : List (Int × Int)) (a : Int × Int) (ws : List (Int × (ByteArray × Int))) : wsPop (l ++ [a]) ws = kdel (wsPop l ws) a.1 := by simp [wsPop]

def slen : Value → Nat
  | .slice _ n _ => n
  | _ => 0
def ov (l : List (Int × Int)) : List Value := l.map fun a => Value.int .u64 a.1
theorem ov_snoc (l : List (Int × Int)) (a : Int × Int) : ov (l ++ [a]) = ov l ++ [.int .u64 a.1] := by simp [ov]

theorem info_u64L : (Try.prog.info? 29).map (fun i => (i.zero, i.size, i.bytes)) = some (some (.int .u64 0), 1, 8) := by kernel_rfl

/-- an owner more -/
theorem push_o {w : World} {B : Nat} {ty : TypeId} {v : Value} {l : List (Int × Int)} (a : Int × Int) (h : w.ownsRow B 29 1 v l.length (ov l)) (hB : B ≤ w.heap.size) (hl : l.length < 4398046511104) :
    ∃ R cp w', (Builtin.append_ #[36, 36] ty #[v, .slice (some ⟨w.heap.size, 0, none⟩) 1 1]).run Try.prog (w.alloc (.cells #[.int .u64 a.1] 29)) = .ok (.slice (some ⟨R, 0, none⟩) (l.length + 1) cp) w' ∧
      w'.ownsRow B 29 1 (.slice (some ⟨R, 0, none⟩) (l.length + 1) cp) (l ++ [a]).length (ov (l ++ [a])) ∧ w.heap.size ≤ w'.heap.size ∧ w'.os = w.os ∧ w'.tape = w.tape ∧ w'.output = w.output ∧ ∀ k, k < w.heap.size → v.ownBlock ≠ some k → w'.heap[k]? = w.heap[k]? := by
  obtain ⟨i, hi, hz, h1, h2⟩ := info_of info_u64L
  have hsrc : RdV (fun _ => False) (w.alloc (.cells #[.int .u64 a.1] 29)) 1 (.slice (some ⟨w.heap.size, 0, none⟩) 1 1) 1 [Value.int .u64 a.1] :=
    ⟨rfl, _, _, rfl, Nat.le_refl _, by unfold maxLen; omega, by simp, fun _ => ⟨w.heap.size, 0, _, _, (0, 0), rfl, fun h => h, heap_alloc_new w _, by simp⟩⟩
  obtain ⟨v', w', hr, ho, hg, hob, hnil⟩ := run_append_rd (P := Try.prog) (base := B) (ty := ty) Try.underlying36 hi hz h1 h2 rfl (by decide) (World.ownsRow.alloc h _) hsrc (by intro u hu; simp only [List.mem_cons, List.not_mem_nil, or_false] at hu; subst hu; rfl) (by omega) (by decide) (by simp; omega)
  rcases ho.2 with ⟨rfl, h0⟩ | ⟨R, cp, cur, rfl, hb, hR, hrest⟩
  · exact absurd (hnil.1 rfl).2 (by omega)
  · refine ⟨R, cp, w', hr, ?_, ?_⟩
    · rw [ov_snoc, List.length_append]; exact ho
    · obtain ⟨g1, g2, g3, g4, g5⟩ := hg
      refine ⟨by have h9 := g4; rw [World.size_alloc] at h9; omega, g1, g2, g3, fun k hk hne => ?_⟩
      rw [g5 k (by rw [World.size_alloc]; omega) (Ne.symm hne), heap_alloc_old _ _ hk]

/-- the table, where a row of numbers alone has turned -/
theorem TabR.keepU {w w' : World} {t : TV} (h : TabR w t) (hk : ∀ k, k < w.heap.size → (∀ cs fr, w.heap[k]? ≠ some (.cells cs 29 fr)) → w'.heap[k]? = w.heap[k]?) : TabR w' t := by
  have hc : ∀ {y : Nat} {cs : Array Value} {ty : TypeId} {fr : Nat × Nat}, ty ≠ 29 → w.heap[y]? = some (.cells cs ty fr) → w'.heap[y]? = w.heap[y]? := fun hne hy => hk _ (Array.getElem?_eq_some_iff.1 hy).1 (fun cs fr e => by
    rw [hy] at e
    injection e with e
    injection e with _ e _
    exact hne e)
  have hm : ∀ {α : Type} [DecidableEq α] [KeyT α] {M : Nat} {es : List (α × Value)}, GMap w M es → GMap w' M es := fun hM => hM.keep (hk _ hM.lt (fun cs fr e => cells_ne_map hM e rfl))
  exact ⟨⟨(hc (by decide) h.tab.blk).trans h.tab.blk, hm h.tab.pl, hm h.tab.wt, hm h.tab.nm⟩,
    fun i x hx => ⟨⟨(hc (by decide) (h.pls i x hx).1.blk).trans (h.pls i x hx).1.blk, hm (h.pls i x hx).1.hl⟩, (h.pls i x hx).2.keep (fun g hg => by obtain ⟨cur, hq⟩ := (h.pls i x hx).2.blk hg; exact hc (by decide) hq)⟩,
    fun i y hy => hm (h.nms i y hy), h.d0, h.dH, h.dM, h.dHH, h.dMM, h.dHM⟩

theorem rowU_keep {w w' : World} {base : Nat} {e : TypeId} {size n : Nat} {v : Value} {xs : List Value} (h : w.ownsRow base e size v n xs) (hk : ∀ k, v.ownBlock = some k → w'.heap[k]? = w.heap[k]?) : w'.ownsRow base e size v n xs := by
  refine ⟨h.1, ?_⟩
  rcases h.2 with hn | ⟨g, cap, cur, rfl, hbg, hg, rest⟩
  · exact .inl hn
  · exact .inr ⟨g, cap, cur, rfl, hbg, by rw [hk g rfl]; exact hg, rest⟩
theorem rowU_blk {w : World} {base : Nat} {e : TypeId} {size n k : Nat} {v : Value} {xs : List Value} (h : w.ownsRow base e size v n xs) (hk : v.ownBlock = some k) : ∃ cur, w.heap[k]? = some (.cells cur e (0, 0)) := by
  rcases h.2 with ⟨rfl, _⟩ | ⟨g, cap, cur, rfl, hbg, hg, rest⟩
  · simp [Value.ownBlock] at hk
  · simp only [Value.ownBlock, Option.some.injEq] at hk
    subst hk
    exact ⟨cur, hg⟩

/-- a row of numbers of the law's own: it lies at no block of a table -/
theorem row_u {w : World} {B k n : Nat} {v : Value} {xs : List Value} (h : w.ownsRow B 29 1 v n xs) (hk : v.ownBlock = some k) : ∃ cs, w.heap[k]? = some (.cells cs 29 (0, 0)) := rowU_blk h hk

theorem TabL.rowTurn {W0 w w' : World} {t : TV} (h : TabL W0 w t) {v : Value} {n : Nat} {xs : List Value} (hv : w.ownsRow W0.heap.size 29 1 v n xs) (h1 : w.heap.size ≤ w'.heap.size) (h2 : w'.os = w.os) (h3 : w'.tape = w.tape) (h4 : w'.output = w.output)
    (h5 : ∀ k, k < w.heap.size → v.ownBlock ≠ some k → w'.heap[k]? = w.heap[k]?) : TabL W0 w' t := by
  refine ⟨h.rep.keepU (fun k hk hne => h5 k hk (fun e => ?_)), ⟨h2.trans h.bl.os, h3.trans h.bl.tape, h4.trans h.bl.output, Nat.le_trans h.bl.size h1, fun k hk => ?_⟩, h.lo, h.loP, h.loN⟩
  · obtain ⟨cs, hc⟩ := row_u hv e
    exact hne cs _ hc
  · rw [h5 k (by have := h.bl.size; omega) (fun e => by have := (hv.lt k e).1; omega), h.bl.block k hk]

/-- what turns a table's own blocks leaves a row of numbers -/
theorem rowKeep {w w' : World} {B n k : Nat} {v : Value} {xs : List Value} (h : w.ownsRow B 29 1 v n xs) (ht : Turn1 w w' k) (hne : ∀ cs, w.heap[k]? ≠ some (.cells cs 29 (0, 0))) : w'.ownsRow B 29 1 v n xs :=
  rowU_keep h (fun j e => ht.2.2.2.2 j (fun e2 => by
    subst e2
    obtain ⟨cs, hc⟩ := row_u h e
    exact hne cs hc))
end Mun
