/- Texts of mine, one behind the other: LockJ, LockK, TbO, TbP, TbQ. -/
import Derived.Test.YtbdkhegfmnladaaMgC
import Derived.Test.YtbdkhegfmnladaaTbM
section
/- One owner that holds one name, alone: it asks again and again. -/
set_option maxRecDepth 100000
set_option linter.unusedVariables false
namespace Mun
open Go Go.RowKit
open Go.Proofs

/-- a table on which owner o alone holds the name s, in the mode m -/
structure One (W0 w : World) (T P W N p H M : Nat) (o : Int) (s : ByteArray) (m : Int) : Prop where
  tab : TabAt w T P W N [(s, .pointer (some ⟨p, 0, none⟩))] [] [(o, .map (some M))]
  pl : PlAt w p H (.slice none 0 0) [(o, .int .i64 m)]
  nm : GMap w M [(s, .agg #[])]
  bl : Below W0.heap.size W0 w
  own : W0.heap.size ≤ T ∧ W0.heap.size ≤ P ∧ W0.heap.size ≤ W ∧ W0.heap.size ≤ N ∧ W0.heap.size ≤ p ∧ W0.heap.size ≤ H ∧ W0.heap.size ≤ M
  ne : (H ≠ N ∧ H ≠ P ∧ H ≠ W ∧ N ≠ P ∧ N ≠ W ∧ P ≠ W) ∧ M ≠ P ∧ M ≠ W ∧ M ≠ N ∧ M ≠ H

theorem One.below {W0 w w' : World} {T P W N p H M : Nat} {o : Int} {s : ByteArray} {m : Int} (h : One W0 w T P W N p H M o s m) (hb : Below w.heap.size w w') : One W0 w' T P W N p H M o s m :=
  ⟨h.tab.keep hb.block, h.pl.keep hb.block, h.nm.keep (hb.block _ h.nm.lt), h.bl.trans (hb.mono h.bl.size), h.own, h.ne⟩

theorem one_start {W0 w : World} (hb : Below W0.heap.size W0 w) (o m : Int) (s : ByteArray) (ho : o ≠ 0) (him : isM m = true) {w1 : World} (hb1 : Below w.heap.size w w1) (hs1 : w1.heap.size = w.heap.size + 4) (ht : TabAt w1 (w.heap.size + 3) w.heap.size (w.heap.size + 1) (w.heap.size + 2) [] [] []) :
    Calls Try.prog 17 #[.pointer (some ⟨w.heap.size + 3, 0, none⟩), .int .u64 o, .string s, .int .i64 m] w1 fun e w' => e = .returned (.int .i64 0) ∧ ∃ p H M, One W0 w' (w.heap.size + 3) w.heap.size (w.heap.size + 1) (w.heap.size + 2) p H M o s m := by
  refine (ask_new w1 _ _ _ _ [] [] [] o m s ht rfl ho him rfl rfl (by omega) (by omega) (by omega)).mono ?_
  rintro e w2 ⟨rfl, p, H, M, ht2, hp2, ⟨hM, hHM⟩, hs2, hM1, hM2, hpl, hHl, x1, x2, x3, hk2⟩
  have h0 := hb.size
  refine ⟨rfl, p, H, M, ht2, hp2, hM, ?_, by omega, by omega⟩
  exact ⟨x1.trans (hb1.os.trans hb.os), x2.trans (hb1.tape.trans hb.tape), x3.trans (hb1.output.trans hb.output), by omega, fun k hk => by rw [hk2 k (by omega) (by omega) (by omega), hb1.block k (by omega), hb.block k hk]⟩

theorem goes_one (o m0 m : Int) : goesP [(o, .int .i64 m0)] o m = true := by simp [goesP]

theorem ask_again {W0 w : World} {T P W N p H M : Nat} {o m0 : Int} {s : ByteArray} (h : One W0 w T P W N p H M o s m0) (ho : o ≠ 0) (m : Int) (him : isM m = true) :
    Calls Try.prog 17 #[.pointer (some ⟨T, 0, none⟩), .int .u64 o, .string s, .int .i64 m] w fun e w' => e = .returned (.int .i64 0) ∧ One W0 w' T P W N p H M o s (jn m0 m) := by
  have hpa : glook (α := ByteArray) [(s, Value.pointer (some ⟨p, 0, none⟩))] s = some (.pointer (some ⟨p, 0, none⟩)) := by simp [glook]
  have hh : glook (α := Int) [(o, Value.int .i64 m0)] o = some (.int .i64 m0) := by simp [glook]
  have hn : glook (α := Int) [(o, Value.map (some M))] o = some (.map (some M)) := by simp [glook]
  by_cases hj : jn m0 m = m0
  · refine (ask_same w T P W N p H _ _ _ _ o m m0 s h.tab hpa h.pl ho him rfl hh hj).mono ?_
    rintro e w' ⟨rfl, hb⟩
    rw [hj]
    exact ⟨rfl, h.below hb⟩
  · obtain ⟨⟨d1, d2, d3, d4, d5, d6⟩, e1, e2, e3, e4⟩ := h.ne
    refine (ask_up w T P W N p H M _ _ _ _ _ o m m0 s h.tab hpa h.pl (fun q hq => ?_) ho him rfl hh hj (goes_one o m0 _) hn h.nm d1 d2 d3 e1 e2 e3 e4).mono ?_
    · rw [List.mem_singleton] at hq
      exact ⟨m0, by rw [hq]⟩
    · rintro e w' ⟨rfl, t1, p1, m1, s1, x1, x2, x3, k1⟩
      have hg : gset (α := Int) [(o, Value.int .i64 m0)] o (.int .i64 (jn m0 m)) = [(o, .int .i64 (jn m0 m))] := by simp [gset]
      have hg2 : gset (α := ByteArray) [(s, Value.agg #[])] s (.agg #[]) = [(s, .agg #[])] := by simp [gset]
      rw [hg] at p1
      rw [hg2] at m1
      have h1 := h.bl.size
      refine ⟨rfl, t1, p1, m1, ⟨x1.trans h.bl.os, x2.trans h.bl.tape, x3.trans h.bl.output, by omega, fun k hk => ?_⟩, h.own, h.ne⟩
      have h2 := h.own
      rw [k1 k (by omega) (by omega) (by omega), h.bl.block k hk]
end Mun
end

section
/- Plain laws on the modes. -/
set_option maxRecDepth 100000
set_option linter.unusedVariables false
namespace Mun
open Go Go.RowKit
open Go.Proofs

theorem jn_laws {x y z : Int} (hx : isM x = true) (hy : isM y = true) (hz : isM z = true) :
    isM (jn x y) = true ∧ isM (jn (jn x y) z) = true ∧ jn (jn (jn x y) z) x = jn (jn x y) z ∧ jn x (jn y z) = jn (jn x y) z ∧ jn y x = jn x y := by
  rw [isM_iff] at hx hy hz
  rcases hx with rfl | rfl | rfl | rfl <;> rcases hy with rfl | rfl | rfl | rfl <;> rcases hz with rfl | rfl | rfl | rfl <;> decide

theorem mode_and3 (n : Int) : ∃ q : Int, bits .and .i64 n 3 = q ∧ isM (1 + q) = true ∧ 0 ≤ q ∧ q ≤ 3 := by
  have key : bits .and .i64 n 3 = n % 4 := by
    have h1 : (BitVec.ofInt 64 n &&& BitVec.ofInt 64 3).toNat = (n % ((2 ^ 64 : Nat) : Int)).toNat % 2 ^ 2 := by
      rw [BitVec.toNat_and, BitVec.toNat_ofInt, show (BitVec.ofInt 64 3).toNat = 2 ^ 2 - 1 from rfl, Nat.and_two_pow_sub_one_eq_mod]
    show IntKind.i64.wrap ((BitVec.ofInt 64 n &&& BitVec.ofInt 64 3).toNat : Nat) = _
    rw [h1, IntKind.wrap_i64]
    omega
  refine ⟨n % 4, key, ?_, by omega, by omega⟩
  rw [isM_iff]
  omega
end Mun
end

section
/- Ask, whatever the table: in plain words, and its contract. -/
set_option maxRecDepth 100000
set_option linter.unusedVariables false
set_option linter.unusedSimpArgs false
namespace Mun
open Go Go.RowKit
open Go.Proofs

def AS.setH (A : AS) (s : ByteArray) (h : Int → Option Int) : AS := ⟨updS A.H s h, A.Q⟩
def AS.setQ (A : AS) (s : ByteArray) (q : List (Int × Int)) : AS := ⟨A.H, updS A.Q s q⟩
def isFreeF (h : Int → Option Int) (u : Int) : Bool := (h u).getD 0 == 0
def AS.waits (A : AS) (o : Int) : Prop := ∃ s m, (o, m) ∈ A.Q s
open Classical in
noncomputable def AS.ask (A : AS) (o : Int) (s : ByteArray) (m : Int) : AS × Int :=
  if o = 0 ∨ isM m = false then (A, 1)
  else if A.waits o then (A, 18)
  else match A.H s o with
    | some h =>
      if jn h m = h then (A, 0)
      else if GoesF (A.H s) o (jn h m) then (A.setH s (upd (A.H s) o (some (jn h m))), 0)
      else (A.setQ s (qins (A.Q s) ((A.Q s).findIdx fun a => isFreeF (A.H s) a.1) (o, jn h m)), 10)
    | none =>
      if A.Q s = [] ∧ GoesF (A.H s) o m then (A.setH s (upd (A.H s) o (some m)), 0)
      else (A.setQ s (A.Q s ++ [(o, m)]), 10)

/-- what holds of each table -/
structure AS.Ok (A : AS) : Prop where
  hm : ∀ s u k, A.H s u = some k → isM k = true ∧ u ≠ 0
  qm : ∀ s u k, (u, k) ∈ A.Q s → isM k = true ∧ u ≠ 0
  qn : ∀ s, ((A.Q s).map (·.1)).Nodup
  qu : ∀ u s m s' m', (u, m) ∈ A.Q s → (u, m') ∈ A.Q s' → s = s'

theorem jn_isM {a b : Int} (ha : isM a = true) (hb : isM b = true) : isM (jn a b) = true := (jn_laws ha hb hb).1

theorem qins_mem {l : List (Int × Int)} {j : Nat} {a b : Int × Int} : b ∈ qins l j a ↔ b ∈ l ∨ b = a := by
  unfold qins
  constructor
  · intro h
    rcases List.mem_append.1 h with h | h
    · exact .inl (List.mem_of_mem_take h)
    · rcases List.mem_cons.1 h with h | h
      · exact .inr h
      · exact .inl (List.mem_of_mem_drop h)
  · intro h
    rcases h with h | h
    · rw [← List.take_append_drop j l] at h
      rcases List.mem_append.1 h with h | h
      · exact List.mem_append_left _ h
      · exact List.mem_append_right _ (List.mem_cons_of_mem _ h)
    · subst h; exact List.mem_append_right _ (by simp)
theorem qins_perm (l : List (Int × Int)) (j : Nat) (a : Int × Int) : (qins l j a).Perm (a :: l) := by
  unfold qins
  have h := List.perm_middle (a := a) (l₁ := l.take j) (l₂ := l.drop j)
  rw [List.take_append_drop] at h
  exact h

theorem AS.Ok.setH {A : AS} (h : A.Ok) (s : ByteArray) (o k : Int) (ho : o ≠ 0) (hk : isM k = true) : (A.setH s (upd (A.H s) o (some k))).Ok := by
  refine ⟨fun s' u k' he => ?_, h.qm, h.qn, h.qu⟩
  have he2 : updS A.H s (upd (A.H s) o (some k)) s' u = some k' := he
  unfold updS upd at he2
  by_cases e1 : s' = s
  · rw [if_pos e1] at he2
    change (if u = o then some k else A.H s u) = some k' at he2
    by_cases e2 : u = o
    · rw [if_pos e2] at he2
      injection he2 with he2
      exact ⟨he2 ▸ hk, e2 ▸ ho⟩
    · rw [if_neg e2] at he2
      exact h.hm s u k' he2
  · rw [if_neg e1] at he2
    exact h.hm s' u k' he2
theorem AS.Ok.setQ {A : AS} (h : A.Ok) {s : ByteArray} {q : List (Int × Int)} {o k : Int} (ho : o ≠ 0) (hk : isM k = true) (hw : ¬ A.waits o) (hp : q.Perm ((o, k) :: A.Q s)) : (A.setQ s q).Ok := by
  have hm : ∀ s' b, b ∈ (A.setQ s q).Q s' → b ∈ A.Q s' ∨ (s' = s ∧ b = (o, k)) := fun s' b hb => by
    have hb2 : b ∈ updS A.Q s q s' := hb
    unfold updS at hb2
    split at hb2
    · rename_i e
      rcases List.mem_cons.1 (hp.mem_iff.1 hb2) with h9 | h9
      · exact .inr ⟨e, h9⟩
      · exact .inl (e ▸ h9)
    · exact .inl hb2
  refine ⟨h.hm, fun s' u k' hb => ?_, fun s' => ?_, fun u s1 m1 s2 m2 h1 h2 => ?_⟩
  · rcases hm s' _ hb with h9 | ⟨-, h9⟩
    · exact h.qm s' u k' h9
    · injection h9 with e1 e2
      exact ⟨e2 ▸ hk, e1 ▸ ho⟩
  · show ((updS A.Q s q s').map (·.1)).Nodup
    unfold updS
    split
    · have h9 := hp.map (·.1)
      rw [h9.nodup_iff, List.map_cons, List.nodup_cons]
      refine ⟨fun h8 => ?_, h.qn s⟩
      obtain ⟨b, hb, hbo⟩ := List.mem_map.1 h8
      exact hw ⟨s, b.2, by rw [show o = b.1 from hbo.symm]; exact hb⟩
    · exact h.qn s'
  · rcases hm s1 _ h1 with h9 | ⟨e1, h9⟩
    · rcases hm s2 _ h2 with h8 | ⟨e2, h8⟩
      · exact h.qu u s1 m1 s2 m2 h9 h8
      · injection h8 with e3 _
        exact absurd ⟨s1, m1, by rw [← e3]; exact h9⟩ hw
    · injection h9 with e3 _
      rcases hm s2 _ h2 with h8 | ⟨e2, h8⟩
      · exact absurd ⟨s2, m2, by rw [← e3]; exact h8⟩ hw
      · exact e1.trans e2.symm

theorem AS.Ok.ask {A : AS} (h : A.Ok) (o : Int) (s : ByteArray) (m : Int) : (A.ask o s m).1.Ok := by
  unfold AS.ask
  by_cases h1 : o = 0 ∨ isM m = false
  · rw [if_pos h1]; exact h
  · rw [if_neg h1]
    have ho : o ≠ 0 := fun e => h1 (.inl e)
    have him : isM m = true := by cases hm : isM m with | true => rfl | false => exact absurd (.inr hm) h1
    by_cases h2 : A.waits o
    · rw [if_pos h2]; exact h
    · rw [if_neg h2]
      cases hh : A.H s o with
      | some k =>
        have hk := (h.hm s o k hh).1
        simp only
        split
        · exact h
        · split
          · exact h.setH s o _ ho (jn_isM hk him)
          · exact h.setQ ho (jn_isM hk him) h2 (qins_perm _ _ _)
      | none =>
        simp only
        split
        · exact h.setH s o _ ho him
        · exact h.setQ ho him h2 (by rw [← qins_end]; exact qins_perm _ _ _)

theorem popF_val : ∀ (qs : List (Int × Int)) (h : Int → Option Int) (u k : Int), (popF h qs).1 u = some k → h u = some k ∨ (u, k) ∈ (popF h qs).2.2
  | [], h, u, k, hk => .inl hk
  | a :: qs, h, u, k, hk => by
    by_cases hg : GoesF h a.1 a.2
    · rw [popF_yes hg] at hk ⊢
      rcases popF_val qs _ u k hk with h9 | h9
      · unfold upd at h9
        split at h9
        · rename_i e
          injection h9 with h9
          refine .inr (List.mem_cons.2 (.inl ?_))
          rw [e, ← h9]
        · exact .inl h9
      · exact .inr (List.mem_cons_of_mem _ h9)
    · rw [popF_no hg] at hk; exact .inl hk

theorem pop_mem {A : AS} {o : Int} {s : ByteArray} {b : Int × Int} : b ∈ (A.pop o s).2.2 ∨ b ∈ (A.pop o s).2.1 ↔ b ∈ A.Q s ∧ b.1 ≠ o := by
  have h8 := popF_split ((A.Q s).filter (neO o)) (upd (A.H s) o none)
  rw [← List.mem_append]
  unfold AS.pop
  rw [h8, List.mem_filter]
  unfold neO
  simp

theorem freed_Q {A : AS} {o : Int} {s : ByteArray} {b : Int × Int} (hb : b ∈ (A.freed o).Q s) : b ∈ A.Q s ∧ b.1 ≠ o := by
  unfold AS.freed at hb
  simp only at hb
  split at hb
  · exact pop_mem.1 (.inr hb)
  · rename_i ht
    exact ⟨hb, fun e => ht (.inr ⟨b.2, by rw [← e]; exact hb⟩)⟩
theorem freed_H {A : AS} {o : Int} {s : ByteArray} {u k : Int} (hk : (A.freed o).H s u = some k) : (u ≠ o ∧ A.H s u = some k) ∨ (u ≠ o ∧ (u, k) ∈ A.Q s) := by
  unfold AS.freed at hk
  simp only at hk
  split at hk
  · rcases popF_val _ _ _ _ hk with h9 | h9
    · unfold upd at h9
      split at h9
      · cases h9
      · rename_i e; exact .inl ⟨e, h9⟩
    · have := pop_mem.1 (.inl h9 : (u, k) ∈ (A.pop o s).2.2 ∨ _)
      exact .inr ⟨this.2, this.1⟩
  · rename_i ht
    exact .inl ⟨fun e => ht (.inl (by rw [← e, hk]; simp)), hk⟩
theorem AS.Ok.freed {A : AS} (h : A.Ok) (o : Int) : (A.freed o).Ok := by
  refine ⟨fun s u k hk => ?_, fun s u k hk => h.qm s u k (freed_Q hk).1, fun s => ?_, fun u s m s' m' h1 h2 => h.qu u s m s' m' (freed_Q h1).1 (freed_Q h2).1⟩
  · rcases freed_H hk with h9 | h9
    · exact h.hm s u k h9.2
    · exact h.qm s u k h9.2
  · have hf : ((((A.Q s).filter (neO o))).map (·.1)).Nodup := (h.qn s).sublist ((List.filter_sublist).map _)
    unfold AS.freed
    simp only
    split
    · have h8 := popF_split ((A.Q s).filter (neO o)) (upd (A.H s) o none)
      rw [← h8] at hf
      exact hf.sublist ((List.sublist_append_right _ _).map _)
    · exact h.qn s
theorem AS.Ok.empty : (⟨fun _ _ => none, fun _ => []⟩ : AS).Ok := by
  refine ⟨fun s u k h => ?_, fun s u k h => ?_, fun _ => List.nodup_nil, fun u s m s' m' h _ => ?_⟩
  · cases h
  · cases h
  · cases h

theorem RepA.waits_none {t : TV} {A : AS} (h : RepA t A) {o : Int} (hw : ¬ A.waits o) : klook t.ws o = none := by
  cases hk : klook t.ws o with
  | none => rfl
  | some y => exact absurd ⟨y.1, y.2, (h.ws o y.1 y.2).1 hk⟩ hw
theorem SzOk.more {t t' : TV} {c : Nat} (h : SzOk t c) (h1 : ∀ s, klook t'.pl s ≠ none → s.size ≤ maxLen) (h2 : t'.pl.length ≤ t.pl.length + 1) (h3 : ∀ s x, klook t'.pl s = some x → x.hs.length + x.qs.length ≤ c + 1) (h4 : t'.ws.length ≤ t.ws.length + 1) : SzOk t' (c + 1) :=
  ⟨h1, by have := h.pl; omega, h3, by have := h.ws; omega⟩
theorem SzOk.up {t : TV} {c : Nat} (h : SzOk t c) : SzOk t (c + 1) := ⟨h.nm, by have := h.pl; omega, fun s x hx => by have := h.qs s x hx; omega, by have := h.ws; omega⟩
theorem SzOk.mono {t : TV} {c c' : Nat} (h : SzOk t c) (hc : c ≤ c') : SzOk t c' := ⟨h.nm, by have := h.pl; omega, fun s x hx => by have := h.qs s x hx; omega, by have := h.ws; omega⟩
theorem kset_len {κ β : Type} [DecidableEq κ] (l : List (κ × β)) (k : κ) (v : β) : (kset l k v).length ≤ l.length + 1 := by
  cases hk : klook l k with
  | none => rw [kset_new hk]; simp
  | some y =>
    obtain ⟨i, -, hs⟩ := klook_set hk
    rw [hs]; simp
theorem Rp.hold_up {t : TV} {A : AS} (h : RepA t A) (hn : (t.pl.map (·.1)).Nodup) {i : Nat} {s : ByteArray} {x : PV} (hx : t.pl[i]? = some (s, x)) (o m : Int) {nm : List (Int × (Nat × List ByteArray))} (hnm : NmIs nm t.nm o s) : RepA (held1 t i (s, x) o m nm) (A.setH s (upd (A.H s) o (some m))) := by
  refine (Rp.hold h hn hx o m hnm).cong (fun _ _ => rfl) (fun _ => rfl) (fun _ _ _ => Iff.rfl) (fun u s' => ?_)
  show _ ↔ updS A.H s (upd (A.H s) o (some m)) s' u ≠ none
  unfold updS upd
  by_cases e : s' = s
  · subst e
    rw [if_pos rfl]
    simp only
    by_cases e2 : u = o
    · simp [e2]
    · simp [e2]
  · rw [if_neg e]; simp [e]
theorem Rp.wait_up {t : TV} {A : AS} (h : RepA t A) (hn : (t.pl.map (·.1)).Nodup) {i : Nat} {s : ByteArray} {x : PV} (hx : t.pl[i]? = some (s, x)) (o m : Int) (hw : ¬ A.waits o) {q : Value} {qs : List (Int × Int)} (hp : ∀ b, b ∈ qs ↔ b ∈ A.Q s ∨ b = (o, m)) :
    RepA { t with pl := t.pl.set i (s, { x with q := q, qs := qs }), ws := kset t.ws o (s, m) } (A.setQ s qs) := by
  have hk := klook_mem hn (List.mem_of_getElem? hx)
  have h1 := h.pl s x hk
  have h2 := Rp.place h hn hx (x' := { x with q := q, qs := qs }) (hf := A.H s) (q := qs) h1.1 rfl
  rw [updS_same] at h2
  refine ⟨h2.pl, h2.pn, fun u s' m' => ?_, h2.nm⟩
  show klook (kset t.ws o (s, m)) u = some (s', m') ↔ (u, m') ∈ updS A.Q s qs s'
  rw [klook_kset]
  unfold updS
  by_cases e : u = o
  · subst e
    rw [if_pos rfl]
    by_cases e2 : s' = s
    · subst e2
      rw [if_pos rfl, hp]
      constructor
      · intro h9
        injection h9 with h9
        injection h9 with _ h9
        exact .inr (by rw [h9])
      · rintro (h9 | h9)
        · exact absurd ⟨s', m', h9⟩ hw
        · injection h9 with _ h9
          rw [h9]
    · rw [if_neg e2]
      constructor
      · intro h9
        injection h9 with h9
        injection h9 with h9 _
        exact absurd h9.symm e2
      · intro h9; exact absurd ⟨s', m', h9⟩ hw
  · rw [if_neg e, h.ws u s' m']
    by_cases e2 : s' = s
    · subst e2
      rw [if_pos rfl, hp]
      constructor
      · exact .inl
      · rintro (h9 | h9)
        · exact h9
        · injection h9 with h9 _; exact absurd h9 e
    · rw [if_neg e2]

def AskPost (w : World) (t : TV) (A : AS) (o : Int) (s : ByteArray) (m : Int) (c : Nat) (e : Ending) (w' : World) : Prop :=
  e = .returned (.int .i64 (A.ask o s m).2) ∧ ∃ t', Stp w t w' t' ∧ RepA t' (A.ask o s m).1 ∧ SzOk t' (c + 1)

theorem ask_any {w : World} {t : TV} {A : AS} (h : TabR w t) (hr : RepA t A) (hok : A.Ok) {c : Nat} (hsz : SzOk t c) (hc : c ≤ 8796093022199) (o : Int) (s : ByteArray) (m : Int) (hs : s.size ≤ maxLen) :
    Calls Try.prog 17 #[.pointer (some ⟨t.T, 0, none⟩), .int .u64 o, .string s, .int .i64 m] w (AskPost w t A o s m c) := by
  have hT := h.tabS
  unfold AskPost
  by_cases h1 : o = 0 ∨ isM m = false
  · have he : A.ask o s m = (A, 1) := by unfold AS.ask; rw [if_pos h1]
    rw [he]
    refine (ask_bad_s w t.T o m s h1).mono ?_
    rintro e w' ⟨rfl, rfl⟩
    exact ⟨rfl, t, Stp.refl h, hr, hsz.up⟩
  · have ho : o ≠ 0 := fun e => h1 (.inl e)
    have him : isM m = true := by cases hm : isM m with | true => rfl | false => exact absurd (.inr hm) h1
    by_cases h2 : A.waits o
    · have he : A.ask o s m = (A, 18) := by unfold AS.ask; rw [if_neg h1, if_pos h2]
      rw [he]
      obtain ⟨s', m', hw'⟩ := h2
      refine (ask_state_s hT o m s ho him ((hr.ws o s' m').2 hw')).mono ?_
      rintro e w' ⟨rfl, h3⟩
      exact ⟨rfl, t, h3.stp rfl, hr, hsz.up⟩
    · have hw := hr.waits_none h2
      cases hp : klook t.pl s with
      | none =>
        obtain ⟨hn1, hn2⟩ := hr.pn s hp
        have hgf : GoesF (A.H s) o m := fun u k hk _ => by rw [hn1 u] at hk; cases hk
        have he : A.ask o s m = (A.setH s (upd (A.H s) o (some m)), 0) := by
          unfold AS.ask
          rw [if_neg h1, if_neg h2, hn1 o]
          simp only
          rw [if_pos ⟨hn2, hgf⟩]
        rw [he]
        refine (ask_fresh_s hT o m s ho him hw hp).mono ?_
        rintro e w' ⟨rfl, p, H, nm, h3, hnm⟩
        have hnd : ((plN t s p H).pl.map (·.1)).Nodup := by
          show ((t.pl ++ [(s, (⟨p, H, .slice none 0 0, [], []⟩ : PV))]).map (·.1)).Nodup
          rw [List.map_append, List.nodup_append]
          refine ⟨h.plNodup, by simp, fun a ha b hb e => ?_⟩
          simp at hb
          subst hb
          subst e
          exact absurd hp ((klook_isSome _ _).2 ha)
        have hapl : ∀ s', klook (plN t s p H).pl s' = if s' = s then some ⟨p, H, .slice none 0 0, [], []⟩ else klook t.pl s' := fun s' => by
          show klook (t.pl ++ [(s, _)]) s' = _
          rw [← kset_new hp, klook_kset]
        have hrN : RepA (plN t s p H) A := by
          refine ⟨fun s' x hx => ?_, fun s' hx => ?_, hr.ws, hr.nm⟩
          · rw [hapl] at hx
            by_cases e : s' = s
            · rw [if_pos e] at hx
              injection hx with hx
              subst hx
              subst e
              exact ⟨by funext u; rw [hn1 u]; rfl, hn2.symm⟩
            · rw [if_neg e] at hx; exact hr.pl s' x hx
          · rw [hapl] at hx
            by_cases e : s' = s
            · rw [if_pos e] at hx; cases hx
            · rw [if_neg e] at hx; exact hr.pn s' hx
        have hxN : (plN t s p H).pl[t.pl.length]? = some (s, ⟨p, H, .slice none 0 0, [], []⟩) := by show (t.pl ++ [_])[_]? = _; simp
        refine ⟨rfl, _, h3.stp rfl, Rp.hold_up hrN hnd hxN o m hnm, ?_⟩
        have hl2 : ∀ s', klook (held1 (plN t s p H) t.pl.length (s, ⟨p, H, .slice none 0 0, [], []⟩) o m nm).pl s' = if s' = s then some ⟨p, H, .slice none 0 0, kset [] o m, []⟩ else klook t.pl s' := fun s' => by
          show klook ((plN t s p H).pl.set _ _) s' = _
          rw [klook_setAt hnd hxN, hapl]
          split <;> rfl
        refine hsz.more (fun s' hs' => ?_) ?_ (fun s' x hx => ?_) (Nat.le_succ _)
        · rw [hl2] at hs'
          by_cases e : s' = s
          · rw [e]; exact hs
          · rw [if_neg e] at hs'; exact hsz.nm s' hs'
        · show ((t.pl ++ [_]).set _ _).length ≤ _
          simp
        · rw [hl2] at hx
          by_cases e : s' = s
          · rw [if_pos e] at hx; injection hx with hx; subst hx; show (kset ([] : List (Int × Int)) o m).length + 0 ≤ c + 1; simp [kset]
          · rw [if_neg e] at hx; have := hsz.qs s' x hx; omega
      | some x =>
        obtain ⟨i, hi, -⟩ := klook_set hp
        obtain ⟨hk1, hk2⟩ := hr.pl s x hp
        have hnd := h.plNodup
        have hgi : ∀ mm, goesP (hsV x.hs) o mm = true ↔ GoesF (A.H s) o mm := fun mm => by rw [← hk1]; exact goesP_F (h.hsNodup hi) o mm
        have hgf : ∀ mm, ¬ GoesF (A.H s) o mm → goesP (hsV x.hs) o mm = false := fun mm hg => by
          cases hgp : goesP (hsV x.hs) o mm with
          | true => exact absurd ((hgi mm).1 hgp) hg
          | false => rfl
        have hql : x.qs.length ≤ 8796093022200 := by have := hsz.qs s x hp; omega
        have hszH : ∀ mm nm, SzOk (held1 t i (s, x) o mm nm) (c + 1) := fun mm nm => by
          have hl2 : ∀ s', klook (held1 t i (s, x) o mm nm).pl s' = if s' = s then some { x with hs := kset x.hs o mm } else klook t.pl s' := fun s' => by
            show klook (t.pl.set i _) s' = _
            rw [klook_setAt hnd hi]
          refine hsz.more (fun s' hs' => ?_) ?_ (fun s' y hy => ?_) (Nat.le_succ _)
          · rw [hl2] at hs'
            by_cases e : s' = s
            · rw [e]; exact hs
            · rw [if_neg e] at hs'; exact hsz.nm s' hs'
          · show (t.pl.set i _).length ≤ _
            simp
          · rw [hl2] at hy
            by_cases e : s' = s
            · rw [if_pos e] at hy; injection hy with hy; subst hy; have h9 := hsz.qs s x hp; have h8 := kset_len x.hs o mm; show (kset x.hs o mm).length + x.qs.length ≤ _; omega
            · rw [if_neg e] at hy; have := hsz.qs s' y hy; omega
        have hszQ : ∀ q qs mm, qs.length ≤ x.qs.length + 1 → SzOk { t with pl := t.pl.set i (s, { x with q := q, qs := qs }), ws := kset t.ws o (s, mm) } (c + 1) := fun q qs mm hlen => by
          have hl2 : ∀ s', klook (t.pl.set i (s, ({ x with q := q, qs := qs } : PV))) s' = if s' = s then some { x with q := q, qs := qs } else klook t.pl s' := fun s' => by
            rw [klook_setAt hnd hi]
          refine hsz.more (fun s' hs' => ?_) ?_ (fun s' y hy => ?_) (kset_len _ _ _)
          · have hs2 : klook (t.pl.set i (s, ({ x with q := q, qs := qs } : PV))) s' ≠ none := hs'
            rw [hl2] at hs2
            by_cases e : s' = s
            · rw [e]; exact hs
            · rw [if_neg e] at hs2; exact hsz.nm s' hs2
          · show (t.pl.set i _).length ≤ _
            simp
          · have hy2 : klook (t.pl.set i (s, ({ x with q := q, qs := qs } : PV))) s' = some y := hy
            rw [hl2] at hy2
            by_cases e : s' = s
            · rw [if_pos e] at hy2; injection hy2 with hy2; subst hy2; have := hsz.qs s x hp; show x.hs.length + qs.length ≤ _; omega
            · rw [if_neg e] at hy2; have := hsz.qs s' y hy2; omega
        cases hh : A.H s o with
        | some k =>
          have hhx : klook x.hs o = some k := by rw [hk1]; exact hh
          by_cases hj : jn k m = k
          · have he : A.ask o s m = (A, 0) := by
              unfold AS.ask; rw [if_neg h1, if_neg h2, hh]; simp only; rw [if_pos hj]
            rw [he]
            refine (ask_same2_s hT hi hp o m ho him hw k hhx hj).mono ?_
            rintro e w' ⟨rfl, h3⟩
            exact ⟨rfl, t, h3.stp rfl, hr, hsz.up⟩
          · by_cases hg : GoesF (A.H s) o (jn k m)
            · have he : A.ask o s m = (A.setH s (upd (A.H s) o (some (jn k m))), 0) := by
                unfold AS.ask; rw [if_neg h1, if_neg h2, hh]; simp only; rw [if_neg hj, if_pos hg]
              rw [he]
              refine (ask_up2_s hT hi hp o m ho him hw k hhx hj ((hgi _).2 hg)).mono ?_
              rintro e w' ⟨rfl, nm, h3, hnm⟩
              exact ⟨rfl, _, h3.stp rfl, Rp.hold_up hr hnd hi o _ hnm, hszH _ _⟩
            · have he : A.ask o s m = (A.setQ s (qins (A.Q s) ((A.Q s).findIdx fun a => isFreeF (A.H s) a.1) (o, jn k m)), 10) := by
                unfold AS.ask; rw [if_neg h1, if_neg h2, hh]; simp only; rw [if_neg hj, if_neg hg]
              rw [he]
              refine (ask_hold_s hT hi hp o m ho him hw k (jn k m) hhx rfl hj (hgf _ hg) hql).mono ?_
              rintro e w' ⟨rfl, q', h3⟩
              have hfi : (fun a : Int × Int => isFree x.hs a.1) = fun a => isFreeF (A.H s) a.1 := by
                funext a
                unfold isFree isFreeF
                rw [hk1]
              rw [hfi, hk2] at h3
              exact ⟨rfl, _, h3.stp rfl, Rp.wait_up hr hnd hi o _ h2 (fun b => qins_mem), hszQ _ _ _ (by rw [qins_length, ← hk2]; exact Nat.le_refl _)⟩
        | none =>
          have hhx : klook x.hs o = none := by rw [hk1]; exact hh
          by_cases hq : A.Q s = []
          · have hqx : x.qs = [] := by rw [hk2]; exact hq
            by_cases hg : GoesF (A.H s) o m
            · have he : A.ask o s m = (A.setH s (upd (A.H s) o (some m)), 0) := by
                unfold AS.ask; rw [if_neg h1, if_neg h2, hh]; simp only; rw [if_pos ⟨hq, hg⟩]
              rw [he]
              refine (ask_there2_s hT hi hp o m ho him hw hhx hqx ((hgi _).2 hg)).mono ?_
              rintro e w' ⟨rfl, nm, h3, hnm⟩
              exact ⟨rfl, _, h3.stp rfl, Rp.hold_up hr hnd hi o _ hnm, hszH _ _⟩
            · have he : A.ask o s m = (A.setQ s (A.Q s ++ [(o, m)]), 10) := by
                unfold AS.ask; rw [if_neg h1, if_neg h2, hh]; simp only; rw [if_neg (fun h9 => hg h9.2)]
              rw [he]
              refine (ask_later_s hT hi hp o m ho him hw hhx hqx (hgf _ hg)).mono ?_
              rintro e w' ⟨rfl, q', h3⟩
              rw [qins_end, hk2] at h3
              exact ⟨rfl, _, h3.stp rfl, Rp.wait_up hr hnd hi o _ h2 (fun b => by rw [List.mem_append, List.mem_singleton]), hszQ _ _ _ (by rw [List.length_append, ← hk2]; exact Nat.le_refl _)⟩
          · have hqx : x.qs ≠ [] := by rw [hk2]; exact hq
            have he : A.ask o s m = (A.setQ s (A.Q s ++ [(o, m)]), 10) := by
              unfold AS.ask; rw [if_neg h1, if_neg h2, hh]; simp only; rw [if_neg (fun h9 => hq h9.1)]
            rw [he]
            refine (ask_behind_s hT hi hp o m ho him hw hhx hqx hql).mono ?_
            rintro e w' ⟨rfl, q', h3⟩
            rw [qins_end, hk2] at h3
            exact ⟨rfl, _, h3.stp rfl, Rp.wait_up hr hnd hi o _ h2 (fun b => by rw [List.mem_append, List.mem_singleton]), hszQ _ _ _ (by rw [List.length_append, ← hk2]; exact Nat.le_refl _)⟩
end Mun
end

section
/- Waits, Queue, whatever the table. -/
set_option maxRecDepth 100000
set_option linter.unusedVariables false
set_option linter.unusedSimpArgs false
namespace Mun
open Go Go.RowKit
open Go.Proofs

/-- the map of the waiting ones is asked -/
theorem waits_look {w : World} {t : TV} (h : TabR w t) (o : Int) : ∃ (gs : ByteArray) (gm : Int) (gw : Bool), (∀ W : World, TabR W t → (Instr.lookup 63 (.map (some t.W)) (.int .u64 o) true).run Try.prog W = .ok (.tuple #[.agg #[.string gs, .int .i64 gm], .bool gw]) W) ∧
    ((gw = true ∧ klook t.ws o = some (gs, gm)) ∨ (gw = false ∧ klook t.ws o = none ∧ gs = ⟨#[]⟩ ∧ gm = 0)) := by
  have hhl : glook (wsV t.ws) o = (klook t.ws o).map (fun y => Value.agg #[.string y.1, .int .i64 y.2]) := glook_map (fun y : ByteArray × Int => Value.agg #[.string y.1, .int .i64 y.2]) t.ws o
  cases hk : klook t.ws o with
  | none =>
    refine ⟨⟨#[]⟩, 0, false, fun W hW => ?_, .inr ⟨rfl, rfl, rfl, rfl⟩⟩
    have h9 := gmap_lookup (P := Try.prog) Try.underlying63 Try.underlying29 (z33 W) hW.tab.wt o
    rw [hhl, hk] at h9
    exact h9
  | some y =>
    refine ⟨y.1, y.2, true, fun W hW => ?_, .inl ⟨rfl, rfl⟩⟩
    have h9 := gmap_lookup (P := Try.prog) Try.underlying63 Try.underlying29 (z33 W) hW.tab.wt o
    rw [hhl, hk] at h9
    exact h9

theorem waits_r {w : World} {t : TV} (h : TabR w t) (o : Int) :
    Calls Try.prog 23 #[.pointer (some ⟨t.T, 0, none⟩), .int .u64 o] w fun e w' => ∃ (gs : ByteArray) (gm : Int) (gw : Bool), e = .returned (.tuple #[.agg #[.string gs, .int .i64 gm], .bool gw]) ∧ Below w.heap.size w w' ∧
      ((gw = true ∧ klook t.ws o = some (gs, gm)) ∨ (gw = false ∧ klook t.ws o = none ∧ gs = ⟨#[]⟩ ∧ gm = 0)) := by
  obtain ⟨gs, gm, gw, hl, hgw⟩ := waits_look h o
  obtain ⟨wz, hwz⟩ : ∃ wz, w.alloc (.cells #[.string ⟨#[]⟩, .int .i64 0] 33) = wz := ⟨_, rfl⟩
  have hbz : Below w.heap.size w wz := by rw [← hwz]; exact (Below.refl _ _).alloc (Nat.le_refl _) _
  have h2 : TabR wz t := h.keep hbz.block
  have c1 : wz.cell? ⟨t.T, 1, none⟩ = some (.map (some t.W)) := cell_of_row wz t.T 1 _ _ _ h2.tab.blk
  have hl1 := hl wz h2
  have hkz : wz.heap[w.heap.size]? = some (.cells #[.string ⟨#[]⟩, .int .i64 0] 33 (0, 0)) := by rw [← hwz]; exact heap_alloc_new w _
  have HG := Lib.hid hgw
  clear h h2 hl hgw
  subst hwz
  have HB : Hid (∀ o : Obj, Below w.heap.size w ((w.alloc (.cells #[.string ⟨#[]⟩, .int .i64 0] 33)).alloc o)) := fun o => hbz.alloc (by rw [World.size_alloc]; omega) _
  clear hbz hkz
  go_enter Try.func23, Try.ntmps23
  go_wp2
  refine bodyPost_ret (by simp [results, Try.results23, go_sem]; try rfl) rfl ?_
  exact ⟨gs, gm, gw, rfl, below_more (below_more (Below.refl _ _) _) _, HG.out⟩

theorem built_none (w : World) : (w.alloc (.cells #[] 29)).ownsRow w.heap.size 29 1 (.slice (some ⟨w.heap.size, 0, none⟩) 0 0) 0 [] :=
  ⟨rfl, .inr ⟨w.heap.size, 0, _, rfl, Nat.le_refl _, heap_alloc_new w _, Nat.le_refl _, by unfold maxLen; omega, by simp, by simp⟩⟩

set_option maxHeartbeats 1000000 in
theorem queue_r {w : World} {t : TV} {A : AS} (h : TabR w t) (hr : RepA t A) {c : Nat} (hsz : SzOk t c) (hc : c ≤ 8796093022199) (s : ByteArray) :
    Calls Try.prog 21 #[.pointer (some ⟨t.T, 0, none⟩), .string s] w fun e w' => ∃ v, e = .returned v ∧ w'.ownsRow w.heap.size 29 1 v (A.Q s).length (ov (A.Q s)) ∧ Below w.heap.size w w' := by
  have c0 : w.cell? ⟨t.T, 0, none⟩ = some (.map (some t.P)) := cell_of_row w t.T 0 _ _ _ h.tab.blk
  have h9 := gmap_lookup1 (P := Try.prog) Try.underlying62 Try.underlying9 (z67 w) h.tab.pl s
  have h8 : glook (plV t.pl) s = (klook t.pl s).map (fun y => Value.pointer (some ⟨y.p, 0, none⟩)) := glook_map (fun y : PV => Value.pointer (some ⟨y.p, 0, none⟩)) t.pl s
  rw [h8] at h9
  cases hp : klook t.pl s with
  | none =>
    rw [hp] at h9
    have hl1 : (Instr.lookup 62 (.map (some t.P)) (.string s) false).run Try.prog w = .ok (.pointer none) w := h9
    have hq : Hid (A.Q s = []) := (hr.pn s hp).2
    clear h9 h8 h hr hsz hc hp
    go_enter Try.func21, Try.ntmps21
    go_wp2
    go_ret
    exact ⟨_, rfl, by rw [hq.out]; exact built_none w, (Below.refl _ _).alloc (Nat.le_refl _) _⟩
  | some x =>
    rw [hp] at h9
    have hl1 : (Instr.lookup 62 (.map (some t.P)) (.string s) false).run Try.prog w = .ok (.pointer (some ⟨x.p, 0, none⟩)) w := h9
    obtain ⟨i, hi, -⟩ := klook_set hp
    obtain ⟨hpa, hqa⟩ := h.pls i _ hi
    have hqs := (hr.pl s x hp).2
    have hql : x.qs.length ≤ 8796093022200 := by have := hsz.qs s x hp; omega
    simp only at hpa hqa
    rw [hqs] at hqa hql
    obtain ⟨l, hll⟩ : ∃ l, A.Q s = l := ⟨_, rfl⟩
    rw [hll] at hqa hql ⊢
    obtain ⟨qa, qn, qc, hqe, hqn⟩ : ∃ qa qn qc, x.q = .slice qa qn qc ∧ l.length = qn := by
      rcases hqa with ⟨e, e2⟩ | ⟨g, off, c, cur2, e, -⟩
      · exact ⟨none, 0, 0, e, by rw [e2]; rfl⟩
      · exact ⟨some ⟨g, off, none⟩, _, c, e, rfl⟩
    rw [hqe] at hpa hqa
    have c1 : w.cell? ⟨x.p, 1, none⟩ = some (.slice qa qn qc) := cell_of_row w x.p 1 _ _ _ hpa.blk
    obtain ⟨w1, hw1⟩ : ∃ w1, w.alloc (.cells (madeCells #[Value.int .u64 0] qn) 29) = w1 := ⟨_, rfl⟩
    have hmk := make_u64 qn (by omega) w
    rw [hw1] at hmk
    have hb1 : Below w.heap.size w w1 := by rw [← hw1]; exact (Below.refl _ _).alloc (Nat.le_refl _) _
    have hrow1 : w1.ownsRow w.heap.size 29 1 (.slice (some ⟨w.heap.size, 0, none⟩) 0 qn) 0 [] := by rw [← hw1]; exact u64_own qn w.heap.size (by omega) w (Nat.le_refl _)
    have c2 : w1.cell? ⟨x.p, 1, none⟩ = some (.slice qa qn qc) := cell_of_row w1 x.p 1 _ _ _ ((hb1.block _ (lt_of_block hpa.blk)).trans hpa.blk)
    have hqnb : (qn : Int) ≤ 8796093022200 := by omega
    have hqn0 : (0 : Int) ≤ (qn : Int) := by omega
    have HQ := Lib.hid (And.intro hqa (And.intro hqn hql))
    have H1 := Lib.hid (And.intro hb1 hrow1)
    clear h9 h8 h hr hsz hc hp hi hpa hqa hqs hql hll hqe hqn hb1 hrow1 hw1
    go_enter Try.func21, Try.ntmps21
    go_wp2_with fail
    go_loopw [6, 29] (fun ov_ iv wr => ∃ (k : Nat) (oa : Option Addr) (oc : Nat), iv = .int .i64 k ∧ k ≤ qn ∧ ov_ = .slice oa k oc ∧ wr.ownsRow w.heap.size 29 1 (.slice oa k oc) (l.take k).length (ov (l.take k)) ∧ Below w.heap.size w wr) (fun _ iv _ => qn - (Go.RowKit.intOf iv).toNat)
    case atStart => exact ⟨0, _, _, rfl, Nat.zero_le _, rfl, H1.out.2, H1.out.1⟩
    case round =>
      obtain ⟨k, oa, oc, rfl, hkn, rfl, hrow, hb⟩ := hrel
      by_cases hk : k < qn
      · have hkl : k < l.length := by rw [HQ.out.2.1]; exact hk
        obtain ⟨g, off, c9, e, k0, k1⟩ := (HQ.out.1.keep (w' := wr) (fun g hg => by obtain ⟨cur, hc⟩ := HQ.out.1.blk hg; exact hb.block g (lt_of_block hc))).at_ k hkl
        injection e with e1 e2 e3
        subst e1 e3
        clear e2
        obtain ⟨y, hy⟩ : ∃ y, l[k] = y := ⟨_, rfl⟩
        rw [hy] at k0 k1
        have htk : l.take (k + 1) = l.take k ++ [y] := by rw [List.take_add_one, List.getElem?_eq_getElem hkl, hy]; rfl
        obtain ⟨w2, hw2⟩ : ∃ w2, wr.alloc (.cells #[.int .u64 y.1, .int .i64 y.2] 77) = w2 := ⟨_, rfl⟩
        have hb2 : Below wr.heap.size wr w2 := by rw [← hw2]; exact (Below.refl _ _).alloc (Nat.le_refl _) _
        have n2 : w2.heap[wr.heap.size]? = some (.cells #[.int .u64 y.1, .int .i64 y.2] 77 (0, 0)) := by rw [← hw2]; exact heap_alloc_new wr _
        have e0 : w2.cell? ⟨wr.heap.size, 0, none⟩ = some (.int .u64 y.1) := cell_of_row w2 _ 0 _ _ _ n2
        have hrow2 : w2.ownsRow w.heap.size 29 1 (.slice oa k oc) (l.take k).length (ov (l.take k)) := rowU_keep hrow (fun j hj => hb2.block j (hrow.lt j hj).2)
        have hsz2 : w.heap.size ≤ w2.heap.size := Nat.le_trans hb.size hb2.size
        have hlk : (l.take k).length = k := by rw [List.length_take]; omega
        obtain ⟨R, cp, w3, hr3, hrow3, z1, z2, z3, z4, z5, -⟩ := push_o2 (ty := 36) y hrow2 hsz2 (by rw [hlk]; have := HQ.out.2.2; omega)
        rw [hlk] at hr3 hrow3
        rw [← htk] at hrow3
        have hb3 : Below w.heap.size w w3 := by
          have hb12 := hb.trans (hb2.mono hb.size)
          exact ⟨z2.trans hb12.os, z3.trans hb12.tape, z4.trans hb12.output, Nat.le_trans hsz2 z1, fun j hj => (z5 j (by omega) (fun e => by have := (hrow2.lt j e).1; omega)).trans (hb12.block j hj)⟩
        have HR3 := Lib.hid hr3
        have H3 := Lib.hid (And.intro hrow3 (And.intro hb3 hk))
        have hki : (k : Int) < (qn : Int) := by omega
        have hk0 : (0 : Int) ≤ (k : Int) := by omega
        clear hkl hy htk hb2 n2 hrow2 hsz2 hlk hr3 hrow3 z1 z2 z3 z4 z5 hb3 hrow hb hkn hk
        go_wp2_with (at_builtin; refine wpList_append_eq rfl rfl HR3.out rfl rfl ?_; clear HR3)
        go_roundw
        case rel => exact ⟨k + 1, _, cp, by go_num, H3.out.2.2, rfl, H3.out.1, H3.out.2.1⟩
        case measure => have := H3.out.2.2; simp [Go.RowKit.intOf]; omega
      · obtain rfl : k = qn := by omega
        have hkd : decide (k < k) = false := by simp
        have htn : l.take k = l := List.take_of_length_le (by have := HQ.out.2.1; omega)
        rw [htn] at hrow
        have HF := Lib.hid (And.intro hrow hb)
        clear hrow hb htn hk hkn
        go_wp2
        go_ret
        exact ⟨_, rfl, HF.out.1, HF.out.2⟩
end Mun
end

section
/- blockers, whatever the table. -/
set_option maxRecDepth 100000
set_option linter.unusedVariables false
set_option linter.unusedSimpArgs false
namespace Mun
open Go Go.RowKit
open Go.Proofs

/-- those that stand ahead of an owner in a queue -/
def ahead (l : List (Int × Int)) (o : Int) : List (Int × Int) := l.takeWhile fun a => a.1 != o
/-- an owner waits for another one -/
def AS.blocks (A : AS) (o u : Int) : Prop := ∃ s m, (o, m) ∈ A.Q s ∧ ((u ≠ o ∧ ∃ k, A.H s u = some k ∧ tog k m = false) ∨ u ∈ (ahead (A.Q s) o).map (·.1))

/-- a range over the holders, under way -/
structure BlR (w0 : World) (r0 g0 H : Nat) (l : List ((Int × Value) × Nat)) (c : Nat) (o m : Int) (gob : Obj) (seen : Array Nat) (lo : List (Int × Int)) (oa : Option Addr) (on oc : Nat) (wr : World) : Prop where
  it : wr.heap[r0]? = some (.mapIter (some H) c seen c)
  bl : Below w0.heap.size w0 wr
  gr : wr.heap[g0]? = some gob
  row : wr.ownsRow w0.heap.size 29 1 (.slice oa on oc) lo.length (ov lo)
  on : lo.length = on
  nd : (lo.map (·.1)).Nodup
  ok : ∀ p ∈ l, seen.contains p.2 = true → (p.1.1 ∈ lo.map (·.1) ∨ p.1.1 = o ∨ ∃ k, p.1.2 = .int .i64 k ∧ tog k m = true)
  ofs : ∀ a ∈ lo, ∃ p ∈ l, seen.contains p.2 = true ∧ p.1.1 = a.1 ∧ a.1 ≠ o ∧ ∃ k, p.1.2 = .int .i64 k ∧ tog k m = false

theorem BlR.len {w0 wr : World} {r0 g0 H : Nat} {l : List ((Int × Value) × Nat)} {c : Nat} {o m : Int} {gob : Obj} {seen : Array Nat} {lo : List (Int × Int)} {oa : Option Addr} {on oc : Nat} (h : BlR w0 r0 g0 H l c o m gob seen lo oa on oc wr) : lo.length ≤ l.length := by
  have h9 := nodup_len (b := l.map (·.1.1)) h.nd (fun u hu => by
    obtain ⟨a, ha, rfl⟩ := List.mem_map.1 hu
    obtain ⟨p, hp, -, e, -⟩ := h.ofs a ha
    exact List.mem_map.2 ⟨p, hp, e⟩)
  simpa using h9


theorem BlR.skip {w0 wr W : World} {r0 g0 H : Nat} {l : List ((Int × Value) × Nat)} {c : Nat} {o m : Int} {gob : Obj} {seen : Array Nat} {lo : List (Int × Int)} {oa : Option Addr} {on oc : Nat} (h : BlR w0 r0 g0 H l c o m gob seen lo oa on oc wr) (hl : GMapC wr H l c) {p : (Int × Value) × Nat} (hp : p ∈ l)
    (hyes : p.1.1 = o ∨ ∃ k, p.1.2 = .int .i64 k ∧ tog k m = true) (hr0 : w0.heap.size ≤ r0) (hg0 : g0 ≠ r0) (hW : Below (setObjW wr r0 (.mapIter (some H) c (seen.push p.2) c)).heap.size (setObjW wr r0 (.mapIter (some H) c (seen.push p.2) c)) W) :
    BlR w0 r0 g0 H l c o m gob (seen.push p.2) lo oa on oc W := by
  have hsz := setObjW_size wr r0 (.mapIter (some H) c (seen.push p.2) c)
  have hlt := lt_of_block h.it
  have hk : ∀ k, k < wr.heap.size → k ≠ r0 → W.heap[k]? = wr.heap[k]? := fun k hk hne => (hW.block k (by rw [hsz]; exact hk)).trans (setObjW_other _ _ _ _ hne)
  refine ⟨(hW.block r0 (by rw [hsz]; exact hlt)).trans (setObjW_same h.it), ?_, (hk g0 (lt_of_block h.gr) hg0).trans h.gr, rowU_keep h.row (fun k hk2 => hk k (h.row.lt k hk2).2 (fun e => ?_)), h.on, h.nd, fun q hq hs => ?_, fun a ha => ?_⟩
  · exact ⟨hW.os.trans h.bl.os, hW.tape.trans h.bl.tape, hW.output.trans h.bl.output, by have := hW.size; have := h.bl.size; omega, fun k hk2 => (hk k (Nat.lt_of_lt_of_le hk2 h.bl.size) (by omega)).trans (h.bl.block k hk2)⟩
  · obtain ⟨cs, hcs⟩ := rowU_blk h.row hk2
    rw [e, h.it] at hcs
    cases hcs
  · by_cases e : q.2 = p.2
    · have : q = p := nodup_inj2 hl.2.1 hq hp e
      subst this
      exact .inr hyes
    · refine h.ok q hq ?_
      simp at hs ⊢
      rcases hs with h9 | h9
      · exact h9
      · exact absurd h9 e
  · obtain ⟨q, hq, h1, h2⟩ := h.ofs a ha
    refine ⟨q, hq, ?_, h2⟩
    simp at h1 ⊢
    exact .inl h1

theorem BlR.take {w0 wr W : World} {r0 g0 H : Nat} {l : List ((Int × Value) × Nat)} {c : Nat} {o m : Int} {gob : Obj} {seen : Array Nat} {lo : List (Int × Int)} {oa : Option Addr} {on oc : Nat} (h : BlR w0 r0 g0 H l c o m gob seen lo oa on oc wr) (hl : GMapC wr H l c) {p : (Int × Value) × Nat} (hp : p ∈ l) (hns : seen.contains p.2 = false)
    (hpo : p.1.1 ≠ o) {k : Int} (hpk : p.1.2 = .int .i64 k) (ht : tog k m = false) (hr0 : w0.heap.size ≤ r0) (hg0 : g0 ≠ r0) (hgc : ∃ cs ty, ty ≠ 29 ∧ gob = .cells cs ty (0, 0)) (hW : Below (setObjW wr r0 (.mapIter (some H) c (seen.push p.2) c)).heap.size (setObjW wr r0 (.mapIter (some H) c (seen.push p.2) c)) W) (hlen : l.length < 8796093022200) :
    ∃ R cp w', (Builtin.append_ #[36, 36] 36 #[.slice oa on oc, .slice (some ⟨W.heap.size, 0, none⟩) 1 1]).run Try.prog (W.alloc (.cells #[.int .u64 p.1.1] 29)) = .ok (.slice (some ⟨R, 0, none⟩) (on + 1) cp) w' ∧
      BlR w0 r0 g0 H l c o m gob (seen.push p.2) (lo ++ [(p.1.1, k)]) (some ⟨R, 0, none⟩) (on + 1) cp w' := by
  have hsz := setObjW_size wr r0 (.mapIter (some H) c (seen.push p.2) c)
  have hlt := lt_of_block h.it
  have hk : ∀ k, k < wr.heap.size → k ≠ r0 → W.heap[k]? = wr.heap[k]? := fun k hk hne => (hW.block k (by rw [hsz]; exact hk)).trans (setObjW_other _ _ _ _ hne)
  have hWs : wr.heap.size ≤ W.heap.size := by have := hW.size; omega
  have hrow : W.ownsRow w0.heap.size 29 1 (.slice oa on oc) lo.length (ov lo) := rowU_keep h.row (fun k hk2 => hk k (h.row.lt k hk2).2 (fun e => by
    obtain ⟨cs, hcs⟩ := rowU_blk h.row hk2
    rw [e, h.it] at hcs
    cases hcs))
  have hit : W.heap[r0]? = some (.mapIter (some H) c (seen.push p.2) c) := (hW.block r0 (by rw [hsz]; exact hlt)).trans (setObjW_same h.it)
  have hgr : W.heap[g0]? = some gob := (hk g0 (lt_of_block h.gr) hg0).trans h.gr
  have hbl : Below w0.heap.size w0 W := ⟨hW.os.trans h.bl.os, hW.tape.trans h.bl.tape, hW.output.trans h.bl.output, by have := h.bl.size; omega, fun k hk2 => (hk k (Nat.lt_of_lt_of_le hk2 h.bl.size) (by omega)).trans (h.bl.block k hk2)⟩
  have hpl : p.1.1 ∉ lo.map (·.1) := fun h9 => by
    obtain ⟨a, ha, e⟩ := List.mem_map.1 h9
    obtain ⟨q, hq, h1, h2, -⟩ := h.ofs a ha
    have : q = p := nodup_inj2 (f := fun x : (Int × Value) × Nat => x.1.1) hl.1 hq hp (h2.trans e)
    subst this
    rw [hns] at h1
    cases h1
  have hll := h.len
  obtain ⟨R, cp, w', hrun, hrow', z1, z2, z3, z4, z5, z6⟩ := push_o2 (ty := 36) (p.1.1, k) hrow hbl.size (by omega)
  have hkeep : ∀ (b : Nat) (ob : Obj), W.heap[b]? = some ob → (∀ cs, ob ≠ .cells cs 29 (0, 0)) → w'.heap[b]? = some ob := fun b ob hb hne => (z5 b (lt_of_block hb) (fun e => by
    obtain ⟨cs, hcs⟩ := rowU_blk hrow e
    rw [hb] at hcs
    injection hcs with hcs
    exact hne cs hcs)).trans hb
  rw [h.on] at hrun hrow'
  refine ⟨R, cp, w', hrun, hkeep _ _ hit (fun cs e => by cases e), ⟨z2.trans hbl.os, z3.trans hbl.tape, z4.trans hbl.output, Nat.le_trans hbl.size z1, fun k hk2 => (z5 k (Nat.lt_of_lt_of_le hk2 hbl.size) (fun e => by have := (hrow.lt k e).1; omega)).trans (hbl.block k hk2)⟩, hkeep _ _ hgr (fun cs e => ?_), hrow', by rw [List.length_append, h.on]; rfl, ?_, fun q hq hs => ?_, fun a ha => ?_⟩
  · obtain ⟨cs', ty', hty, e'⟩ := hgc
    rw [e'] at e
    injection e with _ e _
    exact hty e
  · rw [List.map_append, List.nodup_append]
    exact ⟨h.nd, by simp, fun a ha b hb e => hpl (by simp at hb; rw [← hb, ← e]; exact ha)⟩
  · by_cases e : q.2 = p.2
    · have : q = p := nodup_inj2 hl.2.1 hq hp e
      subst this
      exact .inl (by simp)
    · have h9 := h.ok q hq (by
        simp at hs ⊢
        rcases hs with h9 | h9
        · exact h9
        · exact absurd h9 e)
      rcases h9 with h9 | h9
      · exact .inl (by rw [List.map_append]; exact List.mem_append_left _ h9)
      · exact .inr h9
  · rcases List.mem_append.1 ha with h9 | h9
    · obtain ⟨q, hq, h1, h2⟩ := h.ofs a h9
      refine ⟨q, hq, ?_, h2⟩
      simp at h1 ⊢
      exact .inl h1
    · rw [List.mem_singleton] at h9
      subst h9
      exact ⟨p, hp, by simp, rfl, hpo, k, hpk, ht⟩

theorem BlR.below {w0 wr W : World} {r0 g0 H : Nat} {l : List ((Int × Value) × Nat)} {c : Nat} {o m : Int} {gob : Obj} {seen : Array Nat} {lo : List (Int × Int)} {oa : Option Addr} {on oc : Nat} (h : BlR w0 r0 g0 H l c o m gob seen lo oa on oc wr) (hb : Below wr.heap.size wr W) : BlR w0 r0 g0 H l c o m gob seen lo oa on oc W :=
  ⟨(hb.block _ (lt_of_block h.it)).trans h.it, h.bl.trans (hb.mono h.bl.size), (hb.block _ (lt_of_block h.gr)).trans h.gr, rowU_keep h.row (fun k hk => hb.block k (h.row.lt k hk).2), h.on, h.nd, h.ok, h.ofs⟩

theorem ahead_take {q : List (Int × Int)} {o : Int} {k : Nat} (h1 : ∀ a ∈ q.take k, a.1 ≠ o) (h2 : q.length ≤ k ∨ ∃ a, q[k]? = some a ∧ a.1 = o) : ahead q o = q.take k := by
  unfold ahead
  have hsp : q = q.take k ++ q.drop k := (List.take_append_drop k q).symm
  conv => lhs; rw [hsp]
  have hall : ∀ a ∈ q.take k, (a.1 != o) = true := fun a ha => by simpa using h1 a ha
  rw [List.takeWhile_append_of_pos hall]
  rcases h2 with h2 | ⟨a, h2, h3⟩
  · rw [List.drop_eq_nil_of_le h2]; simp
  · obtain ⟨hl, he⟩ := List.getElem?_eq_some_iff.1 h2
    rw [List.drop_eq_getElem_cons hl, he, List.takeWhile_cons]
    simp [h3]

def BlPost (w : World) (A : AS) (o : Int) (e : Ending) (w' : World) : Prop := ∃ v l, e = .returned v ∧ w'.ownsRow w.heap.size 29 1 v l.length (ov l) ∧ l.length ≤ 8796093022199 ∧ Below w.heap.size w w' ∧ ∀ u, u ∈ l.map (·.1) ↔ A.blocks o u

set_option maxHeartbeats 4000000 in
theorem blockers_r {w : World} {t : TV} {A : AS} (h : TabR w t) (hr : RepA t A) (hok : A.Ok) {c : Nat} (hsz : SzOk t c) (hc : c ≤ 8796093022199) (o : Int) :
    Calls Try.prog 59 #[.pointer (some ⟨t.T, 0, none⟩), .int .u64 o] w (BlPost w A o) := by
  obtain ⟨gs, gm, gw, hl, hgw⟩ := waits_look h o
  have c1 : w.cell? ⟨t.T, 1, none⟩ = some (.map (some t.W)) := cell_of_row w t.T 1 _ _ _ h.tab.blk
  have hl1 := hl w h
  obtain ⟨w1, hw1⟩ : ∃ w1, w.alloc (.cells #[.string gs, .int .i64 gm] 33) = w1 := ⟨_, rfl⟩
  have hb1 : Below w.heap.size w w1 := by rw [← hw1]; exact (Below.refl _ _).alloc (Nat.le_refl _) _
  obtain ⟨g0, hg0⟩ : ∃ g0, w.heap.size = g0 := ⟨_, rfl⟩
  have k1 : w1.heap[g0]? = some (.cells #[.string gs, .int .i64 gm] 33 (0, 0)) := by rw [← hw1, ← hg0]; exact heap_alloc_new w _
  have h1 := h.keep hb1.block
  rcases hgw with ⟨rfl, hws⟩ | ⟨rfl, hws, -, -⟩
  · have hq := (hr.ws o gs gm).1 hws
    obtain ⟨x, hx⟩ : ∃ x, klook t.pl gs = some x := by
      cases hk : klook t.pl gs with
      | none => rw [(hr.pn gs hk).2] at hq; cases hq
      | some x => exact ⟨x, rfl⟩
    obtain ⟨i, hi, -⟩ := klook_set hx
    obtain ⟨hk1, hk2⟩ := hr.pl gs x hx
    have d0 : w1.cell? ⟨t.T, 0, none⟩ = some (.map (some t.P)) := cell_of_row w1 t.T 0 _ _ _ h1.tab.blk
    have d1 : w1.cell? ⟨g0, 0, none⟩ = some (.string gs) := cell_of_row w1 g0 0 _ _ _ k1
    have hlk : ∀ n, (Instr.lookup 62 (.map (some t.P)) (.string gs) false).run Try.prog (w1.drewN n) = .ok (.pointer (some ⟨x.p, 0, none⟩)) (w1.drewN n) := fun n => by
      have h9 := gmap_lookup1 (P := Try.prog) Try.underlying62 Try.underlying9 (z67 (w1.drewN n)) (h1.keep (below_drewN (Below.refl w1.heap.size w1) n).block).tab.pl gs
      have h8 : glook (plV t.pl) gs = (klook t.pl gs).map (fun y => Value.pointer (some ⟨y.p, 0, none⟩)) := glook_map (fun y : PV => Value.pointer (some ⟨y.p, 0, none⟩)) t.pl gs
      rw [h8, hx] at h9
      exact h9
    have HX := Lib.hid (And.intro h (And.intro hi (And.intro hk1 (And.intro hk2 (And.intro hq (hsz.qs gs x hx))))))
    have H1 := Lib.hid (And.intro hb1 k1)
    have HOK := Lib.hid hok
    have hg0' := hg0
    clear h hr hsz hl hb1 h1 hws hi hk1 hk2 hq hx k1 hok
    go_enter Try.func59, Try.ntmps59
    go_upto_region 5 with (fail)
    try rw [hw1]
    clear hw1 c1 hl1
    go_quiet (fail)
    obtain ⟨w2, hw2⟩ : ∃ w2, w1.drewN nq = w2 := ⟨_, rfl⟩
    have hb2 : Below w.heap.size w w2 := by rw [← hw2]; exact below_drewN H1.out.1 nq
    have k2 : w2.heap[g0]? = some (.cells #[.string gs, .int .i64 gm] 33 (0, 0)) := by
      rw [← hw2]; exact ((below_drewN (Below.refl w1.heap.size w1) nq).block _ (lt_of_block H1.out.2)).trans H1.out.2
    rw [hw2]
    clear hw2 hlk d0 d1 H1
    have h2 := HX.out.1.keep hb2.block
    obtain ⟨hp2, hq2⟩ := h2.pls i _ HX.out.2.1
    simp only at hp2 hq2
    obtain ⟨l, cl, hl, hes⟩ := hp2.hl
    have e0 : w2.cell? ⟨x.p, 0, none⟩ = some (.map (some x.H)) := cell_of_row w2 x.p 0 _ _ _ hp2.blk
    have hrg := gmap_range (P := Try.prog) Try.underlying68 hl
    obtain ⟨r0, hr0⟩ : ∃ r0, w2.heap.size = r0 := ⟨_, rfl⟩
    obtain ⟨w3, hw3⟩ : ∃ w3, w2.alloc (.mapIter (some x.H) cl #[] cl) = w3 := ⟨_, rfl⟩
    have hgr0 : g0 < r0 := by have := lt_of_block k2; omega
    have hR : BlR w r0 g0 x.H l cl o gm (.cells #[.string gs, .int .i64 gm] 33 (0, 0)) #[] [] none 0 0 w3 := by
      rw [← hw3]
      exact ⟨by rw [← hr0]; exact heap_alloc_new w2 _, below_more hb2 _, (heap_alloc_old _ _ (lt_of_block k2)).trans k2, World.ownsRow_nil _ _ _ _, rfl, List.nodup_nil, fun p _ hs => by simp at hs, fun a ha => by cases ha⟩
    rw [hw3, hr0] at hrg
    have HR := Lib.hid hR
    have HB2 := Lib.hid (And.intro hb2 hgr0)
    have HL := Lib.hid (And.intro hl hes)
    clear hR hb2 k2 h2 hp2 hq2 hl hes hr0 hw3
    go_wp2_with fail
    go_loopw [7] (fun ov_ wr => ∃ (seen : Array Nat) (lo : List (Int × Int)) (oa : Option Addr) (on oc : Nat), ov_ = .slice oa on oc ∧ BlR w r0 g0 x.H l cl o gm (.cells #[.string gs, .int .i64 gm] 33 (0, 0)) seen lo oa on oc wr) (fun _ wr => gunseen l r0 wr)
    case atStart => exact ⟨_, _, none, 0, 0, rfl, HR.out⟩
    case round =>
      obtain ⟨seen, lo, oa, on, oc, rfl, hR⟩ := hrel
      have hHw : x.H < w.heap.size := (HX.out.1.pls i _ HX.out.2.1).1.hl.lt
      have hlr : GMapC wr x.H l cl := HL.out.1.keep ((hR.bl.block _ hHw).trans (HB2.out.1.block _ hHw).symm)
      obtain ⟨v, w0', w', hrun, hw0, hcase⟩ := gmap_next (P := Try.prog) (ty := 0) hlr hR.it
      have hnx : ∀ ty, (Instr.next (.pointer (some ⟨r0, 0, none⟩)) false ty).run Try.prog wr = _ := fun _ => hrun
      have hu0 : gunseen l r0 wr = (l.filter fun p => !seen.contains p.2).length := by unfold gunseen; rw [hR.it]
      have hR0 : BlR w r0 g0 x.H l cl o gm (.cells #[.string gs, .int .i64 gm] 33 (0, 0)) seen lo oa on oc w0' := by
        rcases hw0 with rfl | rfl
        · exact hR
        · exact hR.below (below_drewN (Below.refl _ _) 1)
      have hl0 : GMapC w0' x.H l cl := HL.out.1.keep ((hR0.bl.block _ hHw).trans (HB2.out.1.block _ hHw).symm)
      have hrl : w.heap.size ≤ r0 := by omega
      rcases hcase with ⟨hall, rfl, rfl⟩ | ⟨p, hp, hns, rfl, rfl⟩
      · have hset : ∀ u, u ∈ lo.map (·.1) ↔ (u ≠ o ∧ ∃ k, A.H gs u = some k ∧ tog k gm = false) := by
          have hxn : (x.hs.map (·.1)).Nodup := HX.out.1.hsNodup HX.out.2.1
          have hin : ∀ u k, A.H gs u = some k ↔ ∃ p ∈ l, p.1 = (u, Value.int .i64 k) := fun u k => by
            rw [← HX.out.2.2.1]
            constructor
            · intro hk
              have h9 : (u, Value.int .i64 k) ∈ hsV x.hs := List.mem_map.2 ⟨_, klook_in hk, rfl⟩
              rw [← HL.out.2] at h9
              obtain ⟨p, hp, e⟩ := List.mem_map.1 h9
              exact ⟨p, hp, e⟩
            · rintro ⟨p, hp, e⟩
              have h9 : p.1 ∈ hsV x.hs := by rw [← HL.out.2]; exact List.mem_map_of_mem hp
              rw [e] at h9
              obtain ⟨a, ha, e2⟩ := List.mem_map.1 h9
              injection e2 with e3 e4
              injection e4 with _ e4
              have h8 := klook_mem hxn ha
              rw [e3, e4] at h8
              exact h8
          intro u
          constructor
          · intro hu
            obtain ⟨a, ha, rfl⟩ := List.mem_map.1 hu
            obtain ⟨p, hp, -, e, hne, k, hk, ht⟩ := hR0.ofs a ha
            exact ⟨hne, k, (hin _ _).2 ⟨p, hp, by rw [← e, ← hk]⟩, ht⟩
          · rintro ⟨hne, k, hk, ht⟩
            obtain ⟨p, hp, e⟩ := (hin _ _).1 hk
            rcases hR0.ok p hp (hall p hp) with h9 | h9 | ⟨k', h9, h8⟩
            · rw [e] at h9; exact h9
            · rw [e] at h9; exact absurd h9 hne
            · rw [e] at h9
              injection h9 with _ h9
              rw [← h9, ht] at h8
              cases h8
        have hlen : lo.length ≤ x.hs.length := by
          have h9 := hR0.len
          have h8 := congrArg List.length HL.out.2
          simp only [List.length_map, hsV] at h8
          omega
        obtain ⟨hpw, hqw⟩ := HX.out.1.pls i _ HX.out.2.1
        simp only at hpw hqw
        have hq0 : QAt w x.q x.qs := hqw
        rw [HX.out.2.2.2.1] at hq0
        obtain ⟨q, hqq⟩ : ∃ q, A.Q gs = q := ⟨_, rfl⟩
        rw [hqq] at hq0
        obtain ⟨qa, qn, qc, hqe, hqn⟩ : ∃ qa qn qc, x.q = .slice qa qn qc ∧ q.length = qn := by
          rcases hq0 with ⟨e, e2⟩ | ⟨g, off, c, cur2, e, -⟩
          · exact ⟨none, 0, 0, e, by rw [e2]; rfl⟩
          · exact ⟨some ⟨g, off, none⟩, _, c, e, rfl⟩
        rw [hqe] at hq0 hpw
        have cq : w'.cell? ⟨x.p, 1, none⟩ = some (.slice qa qn qc) := cell_of_row w' x.p 1 _ _ _ ((hR0.bl.block _ (lt_of_block hpw.blk)).trans hpw.blk)
        have hcnt : lo.length + q.length ≤ 8796093022199 := by
          have h9 := HX.out.2.2.2.2.2
          rw [HX.out.2.2.2.1, hqq] at h9
          omega
        have HQ := Lib.hid (And.intro hq0 (And.intro hqn (And.intro hset (And.intro hcnt hqq))))
        have HR0 := Lib.hid (And.intro hR0.bl (And.intro hR0.row hR0.on))
        have hqn0 : (0 : Int) ≤ (qn : Int) := by omega
        clear hset hlen hpw hqw hq0 hqe hqn hcnt hR0 hR hlr hl0 hu0 hrun hHw hall hrl hqq hw0
        go_wp2_with fail
        go_loopw [7, 60] (fun ov_ iv wr => ∃ (k : Nat) (oa : Option Addr) (oc : Nat), iv = .int .i64 k ∧ k ≤ qn ∧ ov_ = .slice oa (on + k) oc ∧ wr.ownsRow w.heap.size 29 1 (.slice oa (on + k) oc) (lo ++ q.take k).length (ov (lo ++ q.take k)) ∧ Below w.heap.size w wr ∧ (∀ a ∈ q.take k, a.1 ≠ o)) (fun _ iv _ => qn - (Go.RowKit.intOf iv).toNat)
        case atStart => exact ⟨0, oa, oc, rfl, Nat.zero_le _, rfl, by simpa using HR0.out.2.1, HR0.out.1, fun a ha => by simp at ha⟩
        case round =>
          obtain ⟨k, oa2, oc2, rfl, hkn, rfl, hrow, hb, hno⟩ := hrel
          have hlk : (lo ++ q.take k).length = on + k := by
            rw [List.length_append, List.length_take]; have := HR0.out.2.2; have := HQ.out.2.1; omega
          have hfin : (q.length ≤ k ∨ ∃ a, q[k]? = some a ∧ a.1 = o) → BlPost w A o (.returned (.slice oa2 (on + k) oc2)) wr := fun h2 => by
            have hah := ahead_take hno h2
            refine ⟨_, lo ++ q.take k, rfl, hrow, ?_, hb, fun u => ?_⟩
            · have := HQ.out.2.2.2.1; rw [List.length_append, List.length_take]; omega
            · rw [List.map_append, List.mem_append, HQ.out.2.2.1, ← hah]
              unfold AS.blocks
              constructor
              · intro h9
                exact ⟨gs, gm, HX.out.2.2.2.2.1, by rw [HQ.out.2.2.2.2]; exact h9⟩
              · rintro ⟨s', m', h8, h9⟩
                have hss := HOK.out.qu o s' m' gs gm h8 HX.out.2.2.2.2.1
                subst hss
                have hmm : m' = gm := by
                  have hn := HOK.out.qn s'
                  have h7 := nodup_inj2 (f := fun a : Int × Int => a.1) hn h8 HX.out.2.2.2.2.1 rfl
                  injection h7
                subst hmm
                rw [HQ.out.2.2.2.2] at h9
                exact h9
          by_cases hk : k < qn
          · have hkl : k < q.length := by rw [HQ.out.2.1]; exact hk
            obtain ⟨g, off, c9, e, k0, k1⟩ := (HQ.out.1.keep (w' := wr) (fun g hg => by obtain ⟨cur, hc⟩ := HQ.out.1.blk hg; exact hb.block g (lt_of_block hc))).at_ k hkl
            injection e with e1 e2 e3
            subst e1 e3
            clear e2
            obtain ⟨y, hy⟩ : ∃ y, q[k] = y := ⟨_, rfl⟩
            rw [hy] at k0 k1
            have htk : q.take (k + 1) = q.take k ++ [y] := by rw [List.take_add_one, List.getElem?_eq_getElem hkl, hy]; rfl
            obtain ⟨w2', hw2⟩ : ∃ w2, wr.alloc (.cells #[.int .u64 y.1, .int .i64 y.2] 77) = w2 := ⟨_, rfl⟩
            have hb2 : Below wr.heap.size wr w2' := by rw [← hw2]; exact (Below.refl _ _).alloc (Nat.le_refl _) _
            have n2 : w2'.heap[wr.heap.size]? = some (.cells #[.int .u64 y.1, .int .i64 y.2] 77 (0, 0)) := by rw [← hw2]; exact heap_alloc_new wr _
            have f0 : w2'.cell? ⟨wr.heap.size, 0, none⟩ = some (.int .u64 y.1) := cell_of_row w2' _ 0 _ _ _ n2
            have hki : (k : Int) < (qn : Int) := by omega
            have hk0 : (0 : Int) ≤ (k : Int) := by omega
            have hkd : decide (k < qn) = true := by simp; omega
            have hk9 : (k : Int) < 8796093022200 := by have := HQ.out.2.2.2.1; have := HQ.out.2.1; omega
            by_cases hyo : y.1 = o
            · have hyb : (y.1 == o) = true := by simp [hyo]
              have hpost := hfin (.inr ⟨y, by rw [List.getElem?_eq_getElem hkl, hy], hyo⟩)
              have hpost2 : BlPost w A o (.returned (.slice oa2 (on + k) oc2)) w2' := by
                obtain ⟨v, l9, e9, h8, h7, h6, h5⟩ := hpost
                exact ⟨v, l9, e9, rowU_keep h8 (fun j hj => hb2.block j (h8.lt j hj).2), h7, h6.trans (hb2.mono h6.size), h5⟩
              have HP := Lib.hid hpost2
              clear hfin hkl hy htk hb2 n2 hrow hb hno hlk hkn hk hpost hpost2 hyo
              go_wp2
              go_ret
              exact HP.out
            · have hyb : (y.1 == o) = false := by simp [hyo]
              have hrow2 : w2'.ownsRow w.heap.size 29 1 (.slice oa2 (on + k) oc2) (lo ++ q.take k).length (ov (lo ++ q.take k)) := rowU_keep hrow (fun j hj => hb2.block j (hrow.lt j hj).2)
              have hsz2 : w.heap.size ≤ w2'.heap.size := Nat.le_trans hb.size hb2.size
              obtain ⟨R, cp, w3, hr3, hrow3, z1, z2, z3, z4, z5, -⟩ := push_o2 (ty := 36) y hrow2 hsz2 (by have := HQ.out.2.2.2.1; rw [List.length_append, List.length_take]; omega)
              rw [hlk, Nat.add_assoc] at hr3 hrow3
              rw [List.append_assoc, ← htk] at hrow3
              have hb3 : Below w.heap.size w w3 := by
                have hb12 := hb.trans (hb2.mono hb.size)
                exact ⟨z2.trans hb12.os, z3.trans hb12.tape, z4.trans hb12.output, Nat.le_trans hsz2 z1, fun j hj => (z5 j (by omega) (fun e => by have := (hrow2.lt j e).1; omega)).trans (hb12.block j hj)⟩
              have hno3 : ∀ a ∈ q.take (k + 1), a.1 ≠ o := fun a ha => by
                rw [htk] at ha
                rcases List.mem_append.1 ha with h9 | h9
                · exact hno a h9
                · rw [List.mem_singleton] at h9; rw [h9]; exact hyo
              have HR3 := Lib.hid hr3
              have H3 := Lib.hid (And.intro hrow3 (And.intro hb3 (And.intro hk hno3)))
              clear hfin hkl hy htk hb2 n2 hrow2 hsz2 hlk hr3 hrow3 z1 z2 z3 z4 z5 hb3 hrow hb hkn hk hno hno3 hyo
              go_wp2_with (at_builtin; refine wpList_append_eq rfl rfl HR3.out rfl rfl ?_; clear HR3)
              go_roundw
              case rel => exact ⟨k + 1, _, cp, by go_num, H3.out.2.2.1, rfl, H3.out.1, H3.out.2.1, H3.out.2.2.2⟩
              case measure => have := H3.out.2.2.1; simp [Go.RowKit.intOf]; omega
          · obtain rfl : k = qn := by omega
            have hkd : decide (k < k) = false := by simp
            have HP := Lib.hid (hfin (.inl (by have := HQ.out.2.1; omega)))
            clear hfin hrow hb hno hlk hkn hk
            go_wp2
            go_ret
            exact HP.out
      · have hmk : ∃ k, p.1.2 = .int .i64 k := by
          have h9 : p.1 ∈ hsV x.hs := by rw [← HL.out.2]; exact List.mem_map_of_mem hp
          obtain ⟨a, -, e⟩ := List.mem_map.1 h9
          exact ⟨a.2, by rw [← e]⟩
        obtain ⟨k, hk⟩ := hmk
        obtain ⟨wi, hwi⟩ : ∃ wi, setObjW w0' r0 (.mapIter (some x.H) cl (seen.push p.2) cl) = wi := ⟨_, rfl⟩
        have hit : wi.heap[r0]? = some (.mapIter (some x.H) cl (seen.push p.2) cl) := by rw [← hwi]; exact setObjW_same hR0.it
        have hli : GMapC wi x.H l cl := by rw [← hwi]; exact hl0.keep (setObjW_other _ _ _ _ (by omega))
        have hgi : wi.heap[g0]? = some (.cells #[.string gs, .int .i64 gm] 33 (0, 0)) := by rw [← hwi, setObjW_other _ _ _ _ (by omega)]; exact hR0.gr
        have hen := gmap_entry (P := Try.prog) hli hp hit
        rw [hwi, hk] at hnx
        rw [hk] at hen
        change ∀ ty, (Instr.next (.pointer (some ⟨r0, 0, none⟩)) false ty).run Try.prog wr = .ok (.tuple #[.bool true, .int .u64 p.1.1, .int .i64 k]) wi at hnx
        change (Instr.entry (.pointer (some ⟨r0, 0, none⟩))).run Try.prog wi = .ok (.tuple #[.int .u64 p.1.1, .int .i64 k]) wi at hen
        have hg1 : wi.cell? ⟨g0, 1, none⟩ = some (.int .i64 gm) := cell_of_row wi g0 1 _ _ _ hgi
        have hlt : ∀ wz : World, wz.heap[r0]? = some (.mapIter (some x.H) cl (seen.push p.2) cl) → gunseen l r0 wz < gunseen l r0 wr := by
          intro wz hz
          rw [hu0]
          unfold gunseen
          rw [hz]
          refine filter_lt' _ _ l (fun x _ hx => ?_) ⟨p, hp, by simpa using hns, by simp⟩
          simp at hx ⊢
          exact hx.1
        have hskip : (p.1.1 = o ∨ tog k gm = true) → ∀ W, Below wi.heap.size wi W → BlR w r0 g0 x.H l cl o gm (.cells #[.string gs, .int .i64 gm] 33 (0, 0)) (seen.push p.2) lo oa on oc W := fun hy W hW => by
          rw [← hwi] at hW
          exact hR0.skip hl0 hp (hy.imp id (fun h9 => ⟨k, hk, h9⟩)) hrl (by omega) hW
        have htake : p.1.1 ≠ o → tog k gm = false → ∀ W, Below wi.heap.size wi W → _ := fun hy ht W hW => by
          rw [← hwi] at hW
          exact hR0.take hl0 hp hns hy hk ht hrl (by omega) ⟨_, _, by decide, rfl⟩ hW (by
            have h8 := congrArg List.length HL.out.2
            simp only [List.length_map, hsV] at h8
            have h9 := HX.out.2.2.2.2.2
            omega)
        have HSK := Lib.hid hskip
        have HTK := Lib.hid htake
        have HLT := Lib.hid hlt
        have HIT := Lib.hid hit
        have HT := Lib.hid (together_any wi k gm)
        clear hskip htake hlt hit hli hgi hwi hk hu0 hrun hw0 hR0 hR hl0 hlr hHw hns hp hrl
        obtain ⟨u, hu⟩ : ∃ u, p.1.1 = u := ⟨_, rfl⟩
        rw [hu] at hnx hen HSK HTK
        by_cases huo : u = o
        · have huo' : (u != o) = false := by simp [huo]
          have hfin := HSK.out (.inl huo) wi (Below.refl _ _)
          have HF := Lib.hid hfin
          clear hfin HSK HTK
          go_wp2
          go_roundw
          case rel => exact ⟨_, _, oa, on, oc, rfl, HF.out⟩
          case measure => exact HLT.out _ HIT.out
        · have huo' : (u != o) = true := by simp [huo]
          cases htg : tog k gm with
          | true =>
            go_wp2_with fail
            refine HT.out.mono ?_
            rintro e w2' ⟨rfl, hb2⟩
            rw [htg]
            have hfin := HSK.out (.inr htg) w2' hb2
            have HF := Lib.hid hfin
            clear hfin HSK HTK
            go_wp2
            go_roundw
            case rel => exact ⟨_, _, oa, on, oc, rfl, HF.out⟩
            case measure => exact HLT.out _ HF.out.it
          | false =>
            go_wp2_with fail
            refine HT.out.mono ?_
            rintro e w2' ⟨rfl, hb2⟩
            rw [htg]
            obtain ⟨R, cp, w3', hr3, hR3⟩ := HTK.out huo htg w2' hb2
            have HR3 := Lib.hid hr3
            have HF := Lib.hid hR3
            clear hr3 hR3 HSK HTK
            go_wp2_with (at_builtin; refine wpList_append_eq rfl rfl HR3.out rfl rfl ?_; clear HR3)
            go_roundw
            case rel => exact ⟨_, _, _, _, _, rfl, HF.out⟩
            case measure => exact HLT.out _ HF.out.it
  · -- it does not wait
    have hno : Hid (∀ u, ¬ A.blocks o u) := by
      show ∀ _, _
      rintro u ⟨s', m', h9, -⟩
      have h8 := (hr.ws o s' m').2 h9
      rw [hws] at h8
      cases h8
    have HB := Lib.hid hb1
    clear h hr hok hsz hl hws h1 hb1 k1
    go_enter Try.func59, Try.ntmps59
    go_wp2
    go_ret
    try rw [hw1]
    exact ⟨_, [], rfl, World.ownsRow_nil _ _ _ _, Nat.zero_le _, HB.out, fun u => ⟨fun h9 => by simp at h9, fun h9 => absurd h9 (hno.out u)⟩⟩
end Mun
end
