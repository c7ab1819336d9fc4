/- A device's Crash: its law in plain Lean; what the steps do to the new device. -/
import Derived.Test.YtmlggofojdhmmaaDiskL
import Derived.Laws.CopyRow
set_option maxRecDepth 100000
set_option linter.unusedVariables false
namespace Mun
open Go Go.RowKit
open Go.Proofs

def chAt (c : Bytes) (i : Nat) : Nat := (c.getD i 0).toNat
theorem chAt_lt (c : Bytes) (i : Nat) : chAt c i < 256 := (c.getD i 0).toNat_lt

/-- the pages with the first j writes laid over them, as the choice says -/
def crashBase (m : DM) (c : Bytes) : Nat → List Bytes
  | 0 => m.base
  | j + 1 => match m.waiting[j]? with
    | some p => if chAt c j % 2 = 0 then (crashBase m c j).set p.1 p.2 else crashBase m c j
    | none => crashBase m c j

def DM.tornBytes (m : DM) (c : Bytes) (old b : Bytes) : Bytes := b.take (chAt c m.waiting.length / 2 % 5 * 128) ++ old.drop (chAt c m.waiting.length / 2 % 5 * 128)

def DM.crashPages (m : DM) (c : Bytes) : List Bytes :=
  match m.torn with
  | none => crashBase m c m.waiting.length
  | some p => (crashBase m c m.waiting.length).set p.1 (m.tornBytes c ((crashBase m c m.waiting.length).getD p.1 page0) p.2)

def DM.rest (m : DM) : Bytes := m.log.drop m.certain ++ m.tail
def DM.left (m : DM) (c : Bytes) : Nat := (chAt c 0 + 256 * chAt c 1) % (m.rest.length + 1)
def DM.crashLog (m : DM) (c : Bytes) : Bytes := m.log.take m.certain ++ m.rest.take (m.left c)

def DM.crash (m : DM) (c : Bytes) : DM :=
  { room := m.room, base := m.crashPages c, waiting := [], log := m.crashLog c, certain := (m.crashLog c).length, mark := m.mark, fuse := -1, ops := 0, dead := false, torn := none, tail := [] }

theorem crashBase_length (m : DM) (c : Bytes) : ∀ j, (crashBase m c j).length = m.base.length
  | 0 => rfl
  | j + 1 => by
    have ih := crashBase_length m c j
    unfold crashBase
    split
    · split
      · rw [List.length_set, ih]
      · exact ih
    · exact ih

theorem mem_set_or {α : Type} {l : List α} {i : Nat} {a b : α} (h : b ∈ l.set i a) : b ∈ l ∨ b = a := List.mem_or_eq_of_mem_set h

theorem crashBase_pages {m : DM} (h : m.Wf) (c : Bytes) : ∀ j, ∀ b ∈ crashBase m c j, b.length = 512
  | 0 => h.pages
  | j + 1 => by
    have ih := crashBase_pages h c j
    unfold crashBase
    split
    · rename_i p hp
      split
      · intro b hb
        rcases mem_set_or hb with hb | rfl
        · exact ih b hb
        · exact (h.waiting p (List.mem_of_getElem? hp)).2
      · exact ih
    · exact ih

theorem crashBase_get {m : DM} (h : m.Wf) (c : Bytes) (j n : Nat) (hn : n < m.base.length) : ((crashBase m c j).getD n page0).length = 512 := by
  have hlt : n < (crashBase m c j).length := by rw [crashBase_length]; exact hn
  rw [List.getD_eq_getElem?_getD, List.getElem?_eq_getElem hlt, Option.getD_some]
  exact crashBase_pages h c j _ (List.getElem_mem hlt)

theorem tornBytes_length {m : DM} (c old b : Bytes) (h1 : old.length = 512) (h2 : b.length = 512) : (m.tornBytes c old b).length = 512 := by
  unfold DM.tornBytes
  have := Nat.mod_lt (chAt c m.waiting.length / 2) (by decide : 0 < 5)
  rw [List.length_append, List.length_take, List.length_drop]
  omega

theorem crashPages_length (m : DM) (c : Bytes) : (m.crashPages c).length = m.base.length := by
  unfold DM.crashPages
  split
  · exact crashBase_length _ _ _
  · rw [List.length_set]; exact crashBase_length _ _ _

theorem rest_length {m : DM} (h : m.Wf) : m.rest.length = m.log.length - m.certain + m.tail.length := by
  unfold DM.rest
  rw [List.length_append, List.length_drop]

theorem left_le {m : DM} (c : Bytes) : m.left c ≤ m.rest.length := by
  unfold DM.left
  have := Nat.mod_lt (chAt c 0 + 256 * chAt c 1) (by omega : 0 < m.rest.length + 1)
  omega

theorem crashLog_length {m : DM} (h : m.Wf) (c : Bytes) : (m.crashLog c).length = m.certain + m.left c := by
  unfold DM.crashLog
  have := left_le (m := m) c
  have := h.certain
  rw [List.length_append, List.length_take, List.length_take]
  omega

theorem DM.crash_wf {m : DM} (h : m.Wf) (c : Bytes) : (m.crash c).Wf := by
  refine ⟨Nat.le_refl _, ?_, h.room24, ?_, ?_, by simp [DM.crash], by simp [DM.crash], h.mark, by simp [DM.crash], by simp [DM.crash], by simp [DM.crash], fun _ => ⟨rfl, rfl⟩⟩
  · show (m.crashLog c).length + 0 ≤ m.room
    rw [crashLog_length h]
    have := left_le (m := m) c
    have := rest_length h
    have := h.certain
    have := h.room
    omega
  · show ∀ b ∈ m.crashPages c, b.length = 512
    unfold DM.crashPages
    cases ht : m.torn with
    | none => exact crashBase_pages h c _
    | some p =>
      have hp := h.torn p ht
      intro b hb
      rcases mem_set_or hb with hb | rfl
      · exact crashBase_pages h c _ b hb
      · exact tornBytes_length c _ _ (crashBase_get h c _ _ hp.1) hp.2
  · show (m.crashPages c).length ≤ 65536
    rw [crashPages_length]
    exact h.npages

theorem chAt_any {F : Foot} (w : World) (v : Value) (c : Bytes) (hv : RdB F w v c) (i : Nat) (hi : i ≤ 4398046511104) :
    Calls Try.prog 40 #[v, .int .i64 i] w fun e w' => e = .returned (.int .i64 (chAt c i)) ∧ w = w' := by
  obtain ⟨a, n, cp, rfl, HN, hlc, hcm⟩ := hv.formN
  by_cases hlt : i < n
  · have hil : i < c.length := by rw [← HN.out]; exact hlt
    obtain ⟨g, off, cp', hva, _, _, _, _, hc⟩ := RdV.at_ hv (by omega)
    injection hva with e1 e2 e3
    subst e1 e3
    have hcell := hc i (.int .u8 (c[i].toNat : Int)) (by rw [bv_getElem?, List.getElem?_eq_getElem hil]; rfl)
    have hR : chAt c i = c[i].toNat := by unfold chAt; rw [List.getD_eq_getElem?_getD, List.getElem?_eq_getElem hil]; rfl
    obtain ⟨z, hz⟩ : ∃ z : Nat, c[i].toNat = z := ⟨_, rfl⟩
    have hz256 : (z : Int) < 256 := by have := c[i].toNat_lt; omega
    rw [hz] at hcell
    have HZ : Hid (chAt c i = z) := by show _ = _; rw [hR, hz]
    clear hv hc e2 hz hR hil
    have hti : (i : Int) < (n : Int) := by omega
    have h0i : (0 : Int) ≤ (i : Int) := by omega
    go_enter Try.func40, Try.ntmps40
    go_wp2
    go_ret
    rw [HZ.out]
    exact ⟨rfl, rfl⟩
  · have HR : Hid (chAt c i = 0) := by
      show _ = _
      unfold chAt
      rw [List.getD_eq_getElem?_getD, List.getElem?_eq_none (by rw [← HN.out]; omega)]
      rfl
    have hti : ¬ (i : Int) < (n : Int) := by omega
    clear hv
    go_enter Try.func40, Try.ntmps40
    go_wp2
    go_ret
    rw [HR.out]
    exact ⟨rfl, rfl⟩

section
variable {w w' : World} {D : Nat} {m m' : DM} {d : DV}

/-- the pages have turned -/
theorem DRep.pages (h : DRep w D (dfootE D d) m d) (pg : Array Value) (base : List Bytes)
    (hsame : ∀ k, k < w.heap.size → k ≠ d.P → w'.heap[k]? = w.heap[k]?) (hpg : w'.heap[d.P]? = some (.cells pg 28 (0, 0)))
    (hn : pg.size = m.base.length) (hb : base.length = m.base.length) (hv : ∀ i (hi : i < base.length), ∃ v, pg[i]? = some v ∧ PgV (dfootE D d) w' v base[i]) :
    DRep w' D (dfootE D { d with pg := pg }) { m with base := base } { d with pg := pg } := by
  have ko : ∀ k, k < w.heap.size → ¬ dfootE D d k → w'.heap[k]? = w.heap[k]? := fun k h1 h2 => hsame k h1 (fun e => h2 (.inl (.inr (.inl e))))
  refine ⟨?_, hpg, by rw [hn]; exact hb.symm, hv, ownsRow_keep h.wrow (fun k h' => hsame k (h.wrow.lt k h').2 (fun e => h.nePW (e ▸ h'))), h.wws, fun p hp => RdV.keep (h.wrd p hp) ko (fun _ _ h => h),
    h.mp.keep (hsame _ h.mp.lt (Ne.symm h.nePM)), h.mpe, h.mpk, ownsRow_keep h.log (fun k h' => hsame k (h.log.lt k h').2 (fun e => h.nePL (e ▸ h'))), RdV.keep h.mark ko (fun _ _ h => h), RdV.keep h.tail ko (fun _ _ h => h), h.torn.keep ko (fun _ _ h => h),
    fun k hE => lt_of_same (h.elt k hE) (hsame k (h.elt k hE) (fun e => h.eown k hE (.inr (.inl e)))), h.eown⟩
  rw [hsame D h.D_lt h.neP, h.blk]
  show some (Obj.cells (dcells m m.base.length d) _ _) = some (Obj.cells (dcells { m with base := base } base.length { d with pg := pg }) _ _)
  rw [hb]
  rfl

/-- one page is laid -/
theorem DRep.setPage (h : DRep w D (dfootE D d) m d) (n : Nat) (hn : n < m.base.length) (v : Value) (b : Bytes) (hv : RdB (dfootE D d) w v b) :
    DRep (w.setCell ⟨d.P, n, none⟩ v) D (dfootE D { d with pg := d.pg.setIfInBounds n v }) { m with base := m.base.set n b } { d with pg := d.pg.setIfInBounds n v } := by
  have ho : ∀ k, k < w.heap.size → ¬ dfootE D d k → (w.setCell ⟨d.P, n, none⟩ v).heap[k]? = w.heap[k]? := fun k h1 h2 => setCell_heap _ _ _ _ (fun e => h2 (.inl (.inr (.inl e))))
  refine h.pages _ _ (fun k _ hk => setCell_heap _ _ _ _ hk) (setCell_blk h.pgs v) (by simp [h.pgn]) (by simp) (fun i hi => ?_)
  rw [List.length_set] at hi
  obtain ⟨u, hu1, hu2⟩ := h.pgv i hi
  by_cases hin : n = i
  · subst hin
    refine ⟨v, ?_, ?_⟩
    · rw [Array.getElem?_setIfInBounds]; simp [h.pgn, hn]
    · rw [List.getElem_set_self]; exact .inr (RdV.keep hv ho (fun _ _ h => h))
  · refine ⟨u, ?_, ?_⟩
    · rw [Array.getElem?_setIfInBounds, if_neg hin]; exact hu1
    · rw [List.getElem_set_ne hin]; exact hu2.keep ho (fun _ _ h => h)
end
end Mun
