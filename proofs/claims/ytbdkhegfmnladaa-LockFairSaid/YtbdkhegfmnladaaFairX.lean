/- LockFair's rows of owners, and its state while owners are freed. -/
import Derived.Test.YtbdkhegfmnladaaFairT
import Derived.Test.YtbdkhegfmnladaaFairN
import Derived.Test.YtbdkhegfmnladaaFairA
set_option maxRecDepth 100000
set_option linter.unusedVariables false
set_option linter.unusedSimpArgs false
namespace Mun
open Go Go.RowKit
open Go.Proofs

theorem FairAt.turn {W0 w w' : World} {t : TV} {hs qs : List (Int × Int)} (h : FairAt W0 w t hs qs) (ht : TabL W0 w' t) : FairAt W0 w' t hs qs := ⟨ht, h.pl, h.ws, h.nm, h.nd, h.hd⟩
theorem rowU_keepU {w w' : World} {B n : Nat} {v : Value} {xs : List Value} (h : w.ownsRow B 29 1 v n xs) (hk : KeepU w w') : w'.ownsRow B 29 1 v n xs :=
  rowU_keep h (fun k e => by obtain ⟨cs, hc⟩ := rowU_blk h e; exact (hk.2 k cs hc).trans hc.symm)
theorem below_keepU {w w' : World} (h : Below w.heap.size w w') : KeepU w w' := (show KeepU w w from ⟨Nat.le_refl _, fun _ _ h => h⟩).below h

/-- rows of owners of the law's own, in blocks apart -/
structure Rows (B : Nat) (x : World) (l : List (Value × List (Int × Int))) : Prop where
  row : ∀ (i : Nat) (p : Value × List (Int × Int)), l[i]? = some p → x.ownsRow B 29 1 p.1 p.2.length (ov p.2)
  ap : ∀ (i j : Nat) (p q : Value × List (Int × Int)), i ≠ j → l[i]? = some p → l[j]? = some q → ∀ k, p.1.ownBlock = some k → q.1.ownBlock ≠ some k

section
variable {B : Nat} {x x' : World} {l : List (Value × List (Int × Int))}
theorem Rows.keep (h : Rows B x l) (hk : KeepU x x') : Rows B x' l := ⟨fun i p hp => rowU_keepU (h.row i p hp) hk, h.ap⟩
theorem Rows.sub (h : Rows B x l) {l' : List (Value × List (Int × Int))} (f : Nat → Nat) (hf : ∀ i p, l'[i]? = some p → l[f i]? = some p) (hi : ∀ i j, i ≠ j → f i ≠ f j) : Rows B x l' :=
  ⟨fun i p hp => h.row _ p (hf i p hp), fun i j p q hij hp hq => h.ap _ _ p q (hi i j hij) (hf i p hp) (hf j q hq)⟩
theorem Rows.tail {a : Value × List (Int × Int)} (h : Rows B x (a :: l)) : Rows B x l := h.sub (· + 1) (fun i p hp => by simpa using hp) (fun i j hij => by omega)
theorem Rows.del1 {a b : Value × List (Int × Int)} (h : Rows B x (a :: b :: l)) : Rows B x (a :: l) :=
  h.sub (fun i => if i = 0 then 0 else i + 1) (fun i p hp => by
    cases i with
    | zero => simpa using hp
    | succ i => simpa using hp) (fun i j hij => by split <;> split <;> omega)
theorem Rows.push (h : Rows B x l) (hk : KeepU x x') {v : Value} {a : List (Int × Int)} (hB : B ≤ x.heap.size) (hv : x'.ownsRow x.heap.size 29 1 v a.length (ov a)) : Rows B x' ((v, a) :: l) := by
  have h2 := h.keep hk
  refine ⟨fun i p hp => ?_, fun i j p q hij hp hq k hpk hqk => ?_⟩
  · cases i with
    | zero => injection hp with hp; subst hp; exact rowU_mono hv hB
    | succ i => exact h2.row i p (by simpa using hp)
  · have lo : ∀ (i : Nat) (p : Value × List (Int × Int)), l[i]? = some p → ∀ k, p.1.ownBlock = some k → k < x.heap.size := fun i p hp k hk => ((h.row i p hp).lt k hk).2
    cases i with
    | zero =>
      injection hp with hp; subst hp
      have h3 := (hv.lt k hpk).1
      cases j with
      | zero => exact hij rfl
      | succ j => have := lo j q (by simpa using hq) k hqk; omega
    | succ i =>
      have h4 := lo i p (by simpa using hp) k hpk
      cases j with
      | zero =>
        injection hq with hq; subst hq
        have h3 := (hv.lt k hqk).1
        omega
      | succ j => exact h.ap i j p q (by omega) (by simpa using hp) (by simpa using hq) k hpk hqk
theorem Rows.nil (h : Rows B x l) (hB : B ≤ x.heap.size) : Rows B x ((.slice none 0 0, []) :: l) := h.push ⟨Nat.le_refl _, fun _ _ h => h⟩ hB (World.ownsRow_nil _ _ _ _)
theorem Rows.app (h : Rows B x l) {i j : Nat} (hij : i ≠ j) {v s : Value} {a b : List (Int × Int)} (hi : l[i]? = some (v, a)) (hj : l[j]? = some (s, b)) (hB : B ≤ x.heap.size) (hl : a.length + b.length ≤ 4398046511104) :
    ∃ v' x', (Builtin.append_ #[36, 36] 36 #[v, s]).run Try.prog x = .ok v' x' ∧ Rows B x' (l.set i (v', a ++ b)) ∧
      x.heap.size ≤ x'.heap.size ∧ x'.os = x.os ∧ x'.tape = x.tape ∧ x'.output = x.output ∧ (∀ k, k < x.heap.size → v.ownBlock ≠ some k → x'.heap[k]? = x.heap[k]?) := by
  obtain ⟨v', x', hr, ho, z1, z2, z3, z4, z5, hob⟩ := app_rows (h.row i _ hi) (RdV.of_own (F := NoF) (h.row j _ hj) (fun _ _ => noF _)) hB hl
  have lo : ∀ (m : Nat) (p : Value × List (Int × Int)), l[m]? = some p → ∀ k, p.1.ownBlock = some k → k < x.heap.size := fun m p hp k hk => ((h.row m p hp).lt k hk).2
  have hset : ∀ (m : Nat) (p : Value × List (Int × Int)), (l.set i (v', a ++ b))[m]? = some p → (m = i ∧ p = (v', a ++ b)) ∨ (m ≠ i ∧ l[m]? = some p) := fun m p hp => by
    rcases set_cases hp with ⟨rfl, rfl, -⟩ | ⟨hne, h9⟩
    · exact .inl ⟨rfl, rfl⟩
    · exact .inr ⟨Ne.symm hne, h9⟩
  refine ⟨v', x', hr, ⟨fun m p hp => ?_, fun m n p q hmn hp hq k hpk hqk => ?_⟩, z1, z2, z3, z4, z5⟩
  · rcases hset m p hp with ⟨rfl, rfl⟩ | ⟨hne, h9⟩
    · exact ho
    · exact rowU_keep (h.row m p h9) (fun k hk => z5 k (lo m p h9 k hk) (fun e => h.ap i m _ p (Ne.symm hne) hi h9 k e hk))
  · rcases hset m p hp with ⟨rfl, rfl⟩ | ⟨hne, h9⟩
    · rcases hset n q hq with ⟨rfl, rfl⟩ | ⟨hne2, h8⟩
      · exact hmn rfl
      · have h7 := lo n q h8 k hqk
        rcases hob with e | e
        · exact h.ap m n _ q hmn hi h8 k (e ▸ hpk) hqk
        · rw [e] at hpk; injection hpk with hpk; omega
    · rcases hset n q hq with ⟨rfl, rfl⟩ | ⟨hne2, h8⟩
      · have h7 := lo m p h9 k hpk
        rcases hob with e | e
        · exact h.ap n m _ p (Ne.symm hmn) hi h9 k (e ▸ hqk) hpk
        · rw [e] at hqk; injection hqk with hqk; omega
      · exact h.ap m n p q hmn h9 h8 k hpk hqk
end

/-- while owners are freed: those got so far, the holders' numbers -/
structure FairSt (w1 x : World) (T : Nat) (q0 gl : List (Int × Int)) (hk : List Int) : Prop where
  bl : Below w1.heap.size w1 x
  tab : (gl = q0 ∧ hk = []) ∨ ∃ t hs qs, t.T = T ∧ FairAt w1 x t hs qs ∧ gl ++ qs = q0 ∧ hs.map (·.1) = hk

theorem FairSt.row {w1 x x' : World} {T : Nat} {q0 gl : List (Int × Int)} {hk : List Int} (h : FairSt w1 x T q0 gl hk) {v : Value} {n : Nat} {xs : List Value} (hv : x.ownsRow w1.heap.size 29 1 v n xs) (h1 : x.heap.size ≤ x'.heap.size) (h2 : x'.os = x.os) (h3 : x'.tape = x.tape) (h4 : x'.output = x.output)
    (h5 : ∀ k, k < x.heap.size → v.ownBlock ≠ some k → x'.heap[k]? = x.heap[k]?) : FairSt w1 x' T q0 gl hk := by
  refine ⟨⟨h2.trans h.bl.os, h3.trans h.bl.tape, h4.trans h.bl.output, Nat.le_trans h.bl.size h1, fun k hk => ?_⟩, ?_⟩
  · rw [h5 k (by have := h.bl.size; omega) (fun e => by have := (hv.lt k e).1; omega), h.bl.block k hk]
  · rcases h.tab with h9 | ⟨t, hs, qs, hT, hat, hg, hh⟩
    · exact .inl h9
    · exact .inr ⟨t, hs, qs, hT, hat.turn (hat.tab.rowTurn hv h1 h2 h3 h4 h5), hg, hh⟩
theorem FairSt.below {w1 x x' : World} {T : Nat} {q0 gl : List (Int × Int)} {hk : List Int} (h : FairSt w1 x T q0 gl hk) (hb : Below x.heap.size x x') : FairSt w1 x' T q0 gl hk :=
  h.row (v := .slice none 0 0) (World.ownsRow_nil _ _ _ _) hb.size hb.os hb.tape hb.output (fun k hk _ => hb.block k hk)
theorem FairSt.done {w1 x : World} {T : Nat} {q0 gl : List (Int × Int)} (h : FairSt w1 x T q0 gl []) : gl = q0 := by
  rcases h.tab with h9 | ⟨t, hs, qs, hT, hat, hg, hh⟩
  · exact h9.1
  · obtain rfl : hs = [] := by simpa using hh
    cases qs with
    | nil => simpa using hg
    | cons b rest =>
      have h9 := hat.hd b rest rfl
      rw [goesP_nil] at h9
      cases h9

theorem FairSt.free {w1 x : World} {T : Nat} {q0 gl : List (Int × Int)} {hk : List Int} (h : FairSt w1 x T q0 gl hk) {o : Int} (ho : o ∈ hk) (hql : q0.length ≤ 40) :
    Calls Try.prog 19 #[.pointer (some ⟨T, 0, none⟩), .int .u64 o] x fun e w' => ∃ v pop, e = .returned v ∧ KeepU x w' ∧ w'.ownsRow x.heap.size 29 1 v pop.length (ov pop) ∧
      FairSt w1 w' T q0 (gl ++ pop) (hk.erase o ++ pop.map (·.1)) ∧ gl.length + pop.length ≤ q0.length := by
  rcases h.tab with ⟨h1, h2⟩ | ⟨t, hs, qs, hT, hat, hg, hh⟩
  · subst h2; simp at ho
  · subst hT
    subst hh
    have hl : gl.length + qs.length = q0.length := by rw [← hg, List.length_append]
    refine (hat.free ho (by omega)).mono ?_
    rintro e w' ⟨v, pop, hs', qs', rfl, hku, hrow, hpq, hkeys, hb, hfin⟩
    refine ⟨v, pop, rfl, hku, hrow, ⟨hb, ?_⟩, ?_⟩
    · rcases hfin with ⟨rfl, rfl⟩ | ⟨t', hT', hat'⟩
      · refine .inl ⟨by rw [← hg, ← hpq]; simp, ?_⟩
        have h9 := hkeys
        simp only [List.map_nil] at h9
        exact h9.symm
      · exact .inr ⟨t', hs', qs', hT', hat', by rw [← hg, ← hpq]; simp, hkeys⟩
    · have h9 := congrArg List.length hpq
      rw [List.length_append] at h9
      omega
end Mun
