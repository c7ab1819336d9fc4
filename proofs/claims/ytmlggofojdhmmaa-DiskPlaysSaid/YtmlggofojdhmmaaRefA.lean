/- How the reference's device lies in memory; an append to a slice without room. -/
import Derived.Test.YtmlggofojdhmmaaDiskN
import Derived.Test.YtmlggofojdhmmaaRowD
set_option maxRecDepth 100000
set_option linter.unusedVariables false
set_option linter.unusedSimpArgs false
namespace Mun
open Go Go.RowKit
open Go.Proofs

/-- an append to a slice that is full: a new row -/
theorem append_full {F : Foot} {w : World} {t ty e : TypeId} {i : TypeInfo} {z : Value} {size bytes : Nat} (ht : Try.prog.underlying t = some (.slice e)) (hi : Try.prog.info? e = some i) (hz : i.zero = some z)
    (hsize : i.size = size) (hby : i.bytes = bytes) (hzs : z.cells.size = size) (hsz : 0 < size) (hpos : 0 < bytes)
    {a : Option Addr} {n m : Nat} {s : Value} {xs ys : List Value} (hd : RdV F w size (.slice a n n) n xs) (hs : RdV F w size s m ys) (h1 : ∀ u ∈ ys, u.oneCell' = true) (h0 : 0 < m) (hF : ¬ F w.heap.size)
    (hbytes : (n + m) * bytes ≤ 140737488355328) :
    ∃ c w', (Builtin.append_ #[t, t] ty #[.slice a n n, s]).run Try.prog w = .ok (.slice (some ⟨w.heap.size, 0, none⟩) (n + m) c) w' ∧
      RdV F w' size (.slice (some ⟨w.heap.size, 0, none⟩) (n + m) c) (n + m) (xs ++ ys) ∧ Below w.heap.size w w' := by
  have hl := hd.len
  have hm := hs.len
  have h63 : n + m ≤ maxLen := by
    have : n + m ≤ (n + m) * bytes := Nat.le_mul_of_pos_right _ hpos
    unfold maxLen; omega
  obtain ⟨g0, off0, c0, rfl, -, -, -, -, hnews⟩ := hs.at_ h0
  have hnews' : ∀ j u, ys[j]? = some u → w.cell? ((⟨g0, off0, none⟩ : Addr).add j) = some u := fun j u hu => by rw [addr_add]; exact hnews j u hu
  have hbel : ∀ o : Obj, Below w.heap.size w (w.drew.alloc o) := fun o => (below_drewN (Below.refl _ _) 1).alloc (Nat.le_refl _) o
  have hnew : ∀ o : Obj, (w.drew.alloc o).heap[w.heap.size]? = some o := fun o => heap_alloc_new w.drew o
  cases a with
  | none =>
    obtain ⟨_, a', c', e, _, _, hnil, _⟩ := hd
    injection e with e1 e2 e3
    subst e1 e3
    obtain rfl : n = 0 := hnil rfl
    obtain rfl : xs = [] := List.eq_nil_of_length_eq_zero (by simpa using hl)
    subst hsize hby
    have hr := run_append_nil (P := Try.prog) (w := w) t ty e i z ht hi hz ⟨g0, off0, none⟩ m c0 ys hm hnews' h0 (by unfold maxLen at h63; omega) (by have hb := hbytes; rw [Nat.zero_add] at hb; omega)
    have hcap := grownCap_ge w m 0 e
    have hcap2 := grownCap_le_maxLen w m 0 e (by omega)
    refine ⟨grownCap w m 0 e, _, by rw [Nat.zero_add]; exact hr, ?_, hbel _⟩
    rw [Nat.zero_add, List.nil_append]
    refine ⟨hm, _, _, rfl, hcap, hcap2, by simp, fun _ => ⟨w.heap.size, 0, _, _, _, rfl, hF, hnew _, ?_⟩⟩
    simp only [Array.toList_append, List.drop_zero]
    rw [← hm, List.take_append_of_le_length (Nat.le_refl _), List.take_of_length_le (Nat.le_refl _)]
  | some ad =>
    have hold' : ∀ j u, xs[j]? = some u → w.cell? (ad.add j) = some u := by
      intro j u hu
      rcases Nat.eq_zero_or_pos n with rfl | hn
      · obtain rfl : xs = [] := List.eq_nil_of_length_eq_zero (by simpa using hl)
        simp at hu
      · obtain ⟨g1, off1, c1, e1, -, -, -, -, hold⟩ := hd.at_ hn
        injection e1 with e1 _ e3
        injection e1 with e1
        subst e1
        rw [addr_add]
        exact hold j u hu
    subst hsize hby
    have hr := run_append_grow (P := Try.prog) (w := w) t ty e i z ht hi hz ad n n xs hl hold' ⟨g0, off0, none⟩ m c0 ys hm hnews' (by omega) (by unfold maxLen at h63; omega) (growslice_fits (by omega) hbytes)
    have hcap := grownCap_ge w (n + m) n e
    have hcap2 := grownCap_le_maxLen w (n + m) n e h63
    refine ⟨grownCap w (n + m) n e, _, hr, ?_, hbel _⟩
    refine ⟨by rw [List.length_append, hl, hm, Nat.add_mul], _, _, rfl, hcap, hcap2, by simp, fun _ => ⟨w.heap.size, 0, _, _, _, rfl, hF, hnew _, ?_⟩⟩
    have hlen : (n + m) * i.size = (xs ++ ys).length := by rw [List.length_append, hl, hm, Nat.add_mul]
    simp only [Array.toList_append, List.drop_zero]
    rw [hlen, List.take_append_of_le_length (Nat.le_refl _), List.take_of_length_le (Nat.le_refl _)]

/-- the values behind the reference's device -/
structure RV where
  bv : Value
  wv : Value
  lv : Value
  mv : Value
  lb : Value
  tv : Value
  lp : Int
  bs : List Value
  ws : List (Nat × (Bytes × Value))

def rcells (m : DM) (r : RV) : Array Value := #[r.bv, r.wv, .int .i64 m.room, r.lv, .int .i64 m.certain, r.mv, .int .i64 m.fuse, .int .i64 m.ops, .bool m.dead, .int .i64 r.lp, r.lb, r.tv, .bool m.torn.isSome]

structure RRep (F : Foot) (w : World) (m : DM) (r : RV) : Prop where
  base : ListsAt F w r.bv m.base r.bs
  wrow : RdV F w 2 r.wv r.ws.length (wcells r.ws)
  wws : m.waiting = r.ws.map fun p => (p.1, p.2.1)
  wrd : ∀ p ∈ r.ws, RdB F w p.2.2 p.2.1
  log : RdB F w r.lv m.log
  mark : RdB F w r.mv m.mark
  tail : RdB F w r.tv m.tail
  torn : ∀ p, m.torn = some p → r.lp = p.1 ∧ RdB F w r.lb p.2
  lbf : ∃ a n c, r.lb = .slice a n c
  wf : m.Wf

section
variable {F F' : Foot} {w w' : World} {m : DM} {r : RV}
theorem RRep.keep (h : RRep F w m r) (hk : ∀ k, k < w.heap.size → ¬ F k → w'.heap[k]? = w.heap[k]?) (hF : ∀ k, k < w.heap.size → F' k → F k) : RRep F' w' m r :=
  ⟨⟨h.base.row.keep hk hF, fun i hi => by obtain ⟨u, h1, h2⟩ := h.base.rd i hi; exact ⟨u, h1, RdV.keep h2 hk hF⟩⟩, h.wrow.keep hk hF, h.wws, fun p hp => RdV.keep (h.wrd p hp) hk hF, RdV.keep h.log hk hF, RdV.keep h.mark hk hF, RdV.keep h.tail hk hF,
    fun p hp => ⟨(h.torn p hp).1, RdV.keep (h.torn p hp).2 hk hF⟩, h.lbf, h.wf⟩
theorem RRep.chg (h : RRep F w m r) (hc : Chg F F' w w') : RRep F' w' m r :=
  h.keep hc.block (fun k h1 h2 => (hc.foot k h2).elim id (fun h3 => by omega))
theorem RRep.below (h : RRep F w m r) (hb : Below w.heap.size w w') : RRep F w' m r := h.keep (fun k hk _ => hb.block k hk) (fun _ _ h => h)
theorem RRep.mono (h : RRep F w m r) (hF : ∀ k, k < w.heap.size → F' k → F k) : RRep F' w m r := h.keep (fun _ _ _ => rfl) hF
theorem RRep.drewN (h : RRep F w m r) (k : Nat) : RRep F (w.drewN k) m r := h.keep (fun _ _ _ => rfl) (fun _ _ h => h)
/-- the values are slices -/
theorem RRep.forms (h : RRep F w m r) : ∃ a0 c0 a1 c1 a2 c2 a3 c3 a4 n4 c4 a5 c5, r.bv = .slice a0 m.base.length c0 ∧ r.wv = .slice a1 r.ws.length c1 ∧ r.lv = .slice a2 m.log.length c2 ∧ r.mv = .slice a3 m.mark.length c3 ∧ r.lb = .slice a4 n4 c4 ∧ r.tv = .slice a5 m.tail.length c5 := by
  obtain ⟨a0, c0, h0, -⟩ := h.base.row.form
  obtain ⟨a1, c1, h1, -⟩ := h.wrow.form
  obtain ⟨a2, c2, h2, -⟩ := h.log.form
  obtain ⟨a3, c3, h3, -⟩ := h.mark.form
  obtain ⟨a4, n4, c4, h4⟩ := h.lbf
  obtain ⟨a5, c5, h5, -⟩ := h.tail.form
  exact ⟨a0, c0, a1, c1, a2, c2, a3, c3, a4, n4, c4, a5, c5, h0, h1, h2, h3, h4, h5⟩
end
end Mun
