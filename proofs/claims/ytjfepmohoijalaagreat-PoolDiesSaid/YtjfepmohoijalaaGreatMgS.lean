/- Texts of mine, one behind the other: DiskH, DiskK, CrP, DiskL, DeedQ, FuseP. -/
import Derived.Test.YtjfepmohoijalaaGreatMgQ
import Derived.Deep.RegionHeld
import Derived.Laws.CopyRow
import Derived.Deep.Fields
import Derived.Laws.BitsLemmas
section
/- Contracts of the laws' own: ones, Ask. -/
set_option maxRecDepth 100000
set_option linter.unusedVariables false
namespace Mun
open Go Go.RowKit
open Go.Proofs

def onesL : Bytes := List.replicate 512 1
theorem onesL_length : onesL.length = 512 := List.length_replicate
def onesUpto (i : Nat) : Bytes := List.replicate i 1 ++ List.replicate (512 - i) 0
theorem onesUpto_length (i : Nat) (h : i ≤ 512) : (onesUpto i).length = 512 := by simp [onesUpto]; omega
theorem onesUpto_zero : onesUpto 0 = List.replicate 512 0 := by simp [onesUpto]
theorem onesUpto_all : onesUpto 512 = onesL := by simp [onesUpto, onesL]
theorem onesUpto_set (i : Nat) (h : i < 512) : (onesUpto i).set i 1 = onesUpto (i + 1) := by
  unfold onesUpto
  obtain ⟨k, hk⟩ : ∃ k, 512 - i = k + 1 := ⟨511 - i, by omega⟩
  have hk2 : 512 - (i + 1) = k := by omega
  rw [hk, hk2, List.replicate_succ, List.set_append_right _ _ (by simp), List.length_replicate, Nat.sub_self, List.set_cons_zero, List.replicate_succ', List.append_assoc]
  rfl

/-- the device of awake, with its page written -/
def awakeM : DM := ((DM.new 4 10).write 1 onesL).1
theorem awakeM_write : (DM.new 4 10).write 1 onesL = (awakeM, 0) := by
  unfold awakeM DM.write
  rw [if_neg (by simp [DM.new]), if_neg (by simp [DM.new, onesL_length]), if_neg (by simp [DM.new])]
theorem awakeM_eq : awakeM = { (DM.new 4 10).spend with waiting := [(1, onesL)] } := by
  unfold awakeM DM.write
  rw [if_neg (by simp [DM.new]), if_neg (by simp [DM.new, onesL_length]), if_neg (by simp [DM.new])]
  rfl
theorem awakeM_page : awakeM.page 1 = onesL := by rw [awakeM_eq]; rfl

def DM.ask (m : DM) (op n : Int) (b : Bytes) : DM × Int :=
  if op = 0 then m.write n b else if op = 1 then m.sync else if op = 2 then m.append b else if op = 3 then m.force else if op = 4 then m.cut n b else if op = 5 then m.trim n else m.setMark b

section
variable (w : World) (D : Nat) (F : Foot) {E : Foot} (m : DM)

end
end Mun
end

section
/- A device's Crash: its law in plain Lean; what the steps do to the new device. -/
set_option maxRecDepth 100000
set_option linter.unusedVariables false
namespace Mun
open Go Go.RowKit
open Go.Proofs

def chAt (c : Bytes) (i : Nat) : Nat := (c.getD i 0).toNat
theorem chAt_lt (c : Bytes) (i : Nat) : chAt c i < 256 := (c.getD i 0).toNat_lt

/-- the pages with the first j writes laid over them, as the choice says -/
def crashBase (m : DM) (c : Bytes) : Nat → List Bytes
  | 0 => m.base
  | j + 1 => match m.waiting[j]? with
    | some p => if chAt c j % 2 = 0 then (crashBase m c j).set p.1 p.2 else crashBase m c j
    | none => crashBase m c j

def DM.tornBytes (m : DM) (c : Bytes) (old b : Bytes) : Bytes := b.take (chAt c m.waiting.length / 2 % 5 * 128) ++ old.drop (chAt c m.waiting.length / 2 % 5 * 128)

def DM.crashPages (m : DM) (c : Bytes) : List Bytes :=
  match m.torn with
  | none => crashBase m c m.waiting.length
  | some p => (crashBase m c m.waiting.length).set p.1 (m.tornBytes c ((crashBase m c m.waiting.length).getD p.1 page0) p.2)

def DM.rest (m : DM) : Bytes := m.log.drop m.certain ++ m.tail
def DM.left (m : DM) (c : Bytes) : Nat := (chAt c 0 + 256 * chAt c 1) % (m.rest.length + 1)
def DM.crashLog (m : DM) (c : Bytes) : Bytes := m.log.take m.certain ++ m.rest.take (m.left c)

def DM.crash (m : DM) (c : Bytes) : DM :=
  { room := m.room, base := m.crashPages c, waiting := [], log := m.crashLog c, certain := (m.crashLog c).length, mark := m.mark, fuse := -1, ops := 0, dead := false, torn := none, tail := [] }

theorem crashBase_length (m : DM) (c : Bytes) : ∀ j, (crashBase m c j).length = m.base.length
  | 0 => rfl
  | j + 1 => by
    have ih := crashBase_length m c j
    unfold crashBase
    split
    · split
      · rw [List.length_set, ih]
      · exact ih
    · exact ih

theorem mem_set_or {α : Type} {l : List α} {i : Nat} {a b : α} (h : b ∈ l.set i a) : b ∈ l ∨ b = a := List.mem_or_eq_of_mem_set h

theorem crashBase_pages {m : DM} (h : m.Wf) (c : Bytes) : ∀ j, ∀ b ∈ crashBase m c j, b.length = 512
  | 0 => h.pages
  | j + 1 => by
    have ih := crashBase_pages h c j
    unfold crashBase
    split
    · rename_i p hp
      split
      · intro b hb
        rcases mem_set_or hb with hb | rfl
        · exact ih b hb
        · exact (h.waiting p (List.mem_of_getElem? hp)).2
      · exact ih
    · exact ih

theorem crashBase_get {m : DM} (h : m.Wf) (c : Bytes) (j n : Nat) (hn : n < m.base.length) : ((crashBase m c j).getD n page0).length = 512 := by
  have hlt : n < (crashBase m c j).length := by rw [crashBase_length]; exact hn
  rw [List.getD_eq_getElem?_getD, List.getElem?_eq_getElem hlt, Option.getD_some]
  exact crashBase_pages h c j _ (List.getElem_mem hlt)

theorem tornBytes_length {m : DM} (c old b : Bytes) (h1 : old.length = 512) (h2 : b.length = 512) : (m.tornBytes c old b).length = 512 := by
  unfold DM.tornBytes
  have := Nat.mod_lt (chAt c m.waiting.length / 2) (by decide : 0 < 5)
  rw [List.length_append, List.length_take, List.length_drop]
  omega

theorem crashPages_length (m : DM) (c : Bytes) : (m.crashPages c).length = m.base.length := by
  unfold DM.crashPages
  split
  · exact crashBase_length _ _ _
  · rw [List.length_set]; exact crashBase_length _ _ _

theorem rest_length {m : DM} (h : m.Wf) : m.rest.length = m.log.length - m.certain + m.tail.length := by
  unfold DM.rest
  rw [List.length_append, List.length_drop]

theorem left_le {m : DM} (c : Bytes) : m.left c ≤ m.rest.length := by
  unfold DM.left
  have := Nat.mod_lt (chAt c 0 + 256 * chAt c 1) (by omega : 0 < m.rest.length + 1)
  omega

theorem crashLog_length {m : DM} (h : m.Wf) (c : Bytes) : (m.crashLog c).length = m.certain + m.left c := by
  unfold DM.crashLog
  have := left_le (m := m) c
  have := h.certain
  rw [List.length_append, List.length_take, List.length_take]
  omega

theorem DM.crash_wf {m : DM} (h : m.Wf) (c : Bytes) : (m.crash c).Wf := by
  refine ⟨Nat.le_refl _, ?_, h.room24, ?_, ?_, by simp [DM.crash], by simp [DM.crash], h.mark, by simp [DM.crash], by simp [DM.crash], by simp [DM.crash], fun _ => ⟨rfl, rfl⟩⟩
  · show (m.crashLog c).length + 0 ≤ m.room
    rw [crashLog_length h]
    have := left_le (m := m) c
    have := rest_length h
    have := h.certain
    have := h.room
    omega
  · show ∀ b ∈ m.crashPages c, b.length = 512
    unfold DM.crashPages
    cases ht : m.torn with
    | none => exact crashBase_pages h c _
    | some p =>
      have hp := h.torn p ht
      intro b hb
      rcases mem_set_or hb with hb | rfl
      · exact crashBase_pages h c _ b hb
      · exact tornBytes_length c _ _ (crashBase_get h c _ _ hp.1) hp.2
  · show (m.crashPages c).length ≤ 65536
    rw [crashPages_length]
    exact h.npages

theorem chAt_any {F : Foot} (w : World) (v : Value) (c : Bytes) (hv : RdB F w v c) (i : Nat) (hi : i ≤ 4398046511104) :
    Calls Tryz.prog 50 #[v, .int .i64 i] w fun e w' => e = .returned (.int .i64 (chAt c i)) ∧ w = w' := by
  obtain ⟨a, n, cp, rfl, HN, hlc, hcm⟩ := hv.formN
  by_cases hlt : i < n
  · have hil : i < c.length := by rw [← HN.out]; exact hlt
    obtain ⟨g, off, cp', hva, _, _, _, _, hc⟩ := RdV.at_ hv (by omega)
    injection hva with e1 e2 e3
    subst e1 e3
    have hcell := hc i (.int .u8 (c[i].toNat : Int)) (by rw [bv_getElem?, List.getElem?_eq_getElem hil]; rfl)
    have hR : chAt c i = c[i].toNat := by unfold chAt; rw [List.getD_eq_getElem?_getD, List.getElem?_eq_getElem hil]; rfl
    obtain ⟨z, hz⟩ : ∃ z : Nat, c[i].toNat = z := ⟨_, rfl⟩
    have hz256 : (z : Int) < 256 := by have := c[i].toNat_lt; omega
    rw [hz] at hcell
    have HZ : Hid (chAt c i = z) := by show _ = _; rw [hR, hz]
    clear hv hc e2 hz hR hil
    have hti : (i : Int) < (n : Int) := by omega
    have h0i : (0 : Int) ≤ (i : Int) := by omega
    go_enter Tryz.func50, Tryz.ntmps50
    go_wp2
    go_ret
    rw [HZ.out]
    exact ⟨rfl, rfl⟩
  · have HR : Hid (chAt c i = 0) := by
      show _ = _
      unfold chAt
      rw [List.getD_eq_getElem?_getD, List.getElem?_eq_none (by rw [← HN.out]; omega)]
      rfl
    have hti : ¬ (i : Int) < (n : Int) := by omega
    clear hv
    go_enter Tryz.func50, Tryz.ntmps50
    go_wp2
    go_ret
    rw [HR.out]
    exact ⟨rfl, rfl⟩

section
variable {w w' : World} {D : Nat} {m m' : DM} {d : DV}

/-- the pages have turned -/
theorem DRep.pages (h : DRep w D (dfootE D d) m d) (pg : Array Value) (base : List Bytes)
    (hsame : ∀ k, k < w.heap.size → k ≠ d.P → w'.heap[k]? = w.heap[k]?) (hpg : w'.heap[d.P]? = some (.cells pg 41 (0, 0)))
    (hn : pg.size = m.base.length) (hb : base.length = m.base.length) (hv : ∀ i (hi : i < base.length), ∃ v, pg[i]? = some v ∧ PgV (dfootE D d) w' v base[i]) :
    DRep w' D (dfootE D { d with pg := pg }) { m with base := base } { d with pg := pg } := by
  have ko : ∀ k, k < w.heap.size → ¬ dfootE D d k → w'.heap[k]? = w.heap[k]? := fun k h1 h2 => hsame k h1 (fun e => h2 (.inl (.inr (.inl e))))
  refine ⟨?_, hpg, by rw [hn]; exact hb.symm, hv, ownsRow_keep h.wrow (fun k h' => hsame k (h.wrow.lt k h').2 (fun e => h.nePW (e ▸ h'))), h.wws, fun p hp => RdV.keep (h.wrd p hp) ko (fun _ _ h => h),
    h.mp.keep (hsame _ h.mp.lt (Ne.symm h.nePM)), h.mpe, h.mpk, ownsRow_keep h.log (fun k h' => hsame k (h.log.lt k h').2 (fun e => h.nePL (e ▸ h'))), RdV.keep h.mark ko (fun _ _ h => h), RdV.keep h.tail ko (fun _ _ h => h), h.torn.keep ko (fun _ _ h => h),
    fun k hE => lt_of_same (h.elt k hE) (hsame k (h.elt k hE) (fun e => h.eown k hE (.inr (.inl e)))), h.eown⟩
  rw [hsame D h.D_lt h.neP, h.blk]
  show some (Obj.cells (dcells m m.base.length d) _ _) = some (Obj.cells (dcells { m with base := base } base.length { d with pg := pg }) _ _)
  rw [hb]
  rfl

/-- one page is laid -/
theorem DRep.setPage (h : DRep w D (dfootE D d) m d) (n : Nat) (hn : n < m.base.length) (v : Value) (b : Bytes) (hv : RdB (dfootE D d) w v b) :
    DRep (w.setCell ⟨d.P, n, none⟩ v) D (dfootE D { d with pg := d.pg.setIfInBounds n v }) { m with base := m.base.set n b } { d with pg := d.pg.setIfInBounds n v } := by
  have ho : ∀ k, k < w.heap.size → ¬ dfootE D d k → (w.setCell ⟨d.P, n, none⟩ v).heap[k]? = w.heap[k]? := fun k h1 h2 => setCell_heap _ _ _ _ (fun e => h2 (.inl (.inr (.inl e))))
  refine h.pages _ _ (fun k _ hk => setCell_heap _ _ _ _ hk) (setCell_blk h.pgs v) (by simp [h.pgn]) (by simp) (fun i hi => ?_)
  rw [List.length_set] at hi
  obtain ⟨u, hu1, hu2⟩ := h.pgv i hi
  by_cases hin : n = i
  · subst hin
    refine ⟨v, ?_, ?_⟩
    · rw [Array.getElem?_setIfInBounds]; simp [h.pgn, hn]
    · rw [List.getElem_set_self]; exact .inr (RdV.keep hv ho (fun _ _ h => h))
  · refine ⟨u, ?_, ?_⟩
    · rw [Array.getElem?_setIfInBounds, if_neg hin]; exact hu1
    · rw [List.getElem_set_ne hin]; exact hu2.keep ho (fun _ _ h => h)
end
end Mun
end

section
/- Plain laws of a device: what a crash keeps. -/
set_option maxRecDepth 100000
set_option linter.unusedVariables false
namespace Mun

theorem getD_set {α : Type} (l : List α) (i n : Nat) (a z : α) : (l.set i a).getD n z = if i = n ∧ n < l.length then a else l.getD n z := by
  simp only [List.getD_eq_getElem?_getD, List.getElem?_set]
  by_cases h : i = n
  · subst h
    by_cases h2 : i < l.length
    · simp [h2]
    · simp [h2]
  · simp [h]


/-- a page that nobody wrote to since -/
theorem crashBase_keep {m : DM} (c : Bytes) (n : Nat) (hn : ∀ p ∈ m.waiting, p.1 ≠ n) : ∀ j, (crashBase m c j).getD n page0 = m.base.getD n page0
  | 0 => rfl
  | j + 1 => by
    have ih := crashBase_keep c n hn j
    unfold crashBase
    split
    · rename_i p hp
      split
      · rw [getD_set, if_neg (fun x => hn p (List.mem_of_getElem? hp) x.1)]; exact ih
      · exact ih
    · exact ih

theorem crash_page (m : DM) (c : Bytes) (n : Nat) : (m.crash c).page n = (m.crashPages c).getD n page0 := rfl

theorem crash_page_keep {m : DM} (c : Bytes) (n : Nat) (hn : ∀ p ∈ m.waiting, p.1 ≠ n) (ht : ∀ p, m.torn = some p → p.1 ≠ n) : (m.crash c).page n = m.base.getD n page0 := by
  rw [crash_page]
  unfold DM.crashPages
  split
  · exact crashBase_keep c n hn _
  · rename_i p hp
    rw [getD_set, if_neg (fun x => ht p hp x.1)]
    exact crashBase_keep c n hn _

theorem settled_getD (m : DM) (n : Nat) (hn : n < m.base.length) : m.settled.getD n page0 = m.page n := by
  unfold DM.settled
  rw [List.getD_eq_getElem?_getD, List.getElem?_map, List.getElem?_range hn]
  rfl
theorem page_nowait {m : DM} (n : Nat) (h : ∀ p ∈ m.waiting, p.1 ≠ n) : m.page n = m.base.getD n page0 := by
  unfold DM.page
  cases hl : lastW m.waiting n with
  | none => rfl
  | some b => exact absurd rfl (h _ (lastW_mem hl))

end Mun
end

section
/- A law's own words on devices and deeds. -/
set_option maxRecDepth 100000
set_option linter.unusedVariables false
namespace Mun
open Go Go.RowKit Go.ChangeShapes Go.WideShapes
open Go.Proofs

structure Deed where
  op : Int
  n : Int
  b : Bytes
  v : Value

def Deed.cells (d : Deed) : List Value := [.int .i64 d.op, .int .i64 d.n, d.v]

/-- a slice of deeds -/
structure DeedsAt (F : Foot) (w : World) (v : Value) (l : List Deed) : Prop where
  row : RdV F w 3 v l.length (l.flatMap Deed.cells)
  rd : ∀ d ∈ l, RdB F w d.v d.b
  lo : ∀ d ∈ l, -9223372036854775808 ≤ d.n
  hi : ∀ d ∈ l, d.n ≤ 9223372036854775807

theorem deeds_length (l : List Deed) : (l.flatMap Deed.cells).length = l.length * 3 := by
  induction l with
  | nil => rfl
  | cons a l ih => simp only [List.flatMap_cons, List.length_append, ih, Deed.cells, List.length_cons, List.length_nil]; omega

theorem deeds_get (l : List Deed) (i j : Nat) (h : i < l.length) (hj : j < 3) : (l.flatMap Deed.cells)[i * 3 + j]? = (l[i].cells)[j]? := by
  induction l generalizing i with
  | nil => simp at h
  | cons a l ih =>
    cases i with
    | zero =>
      rw [List.flatMap_cons, List.getElem?_append_left (by simp [Deed.cells]; omega)]
      simp
    | succ i =>
      rw [List.flatMap_cons, List.getElem?_append_right (by simp [Deed.cells]; omega)]
      have : (i + 1) * 3 + j - (Deed.cells a).length = i * 3 + j := by simp [Deed.cells]; omega
      rw [this, ih i (by simpa using h)]
      simp

/-- a row of whatever size, from its cells -/
theorem rdV_of_cells {F : Foot} {w : World} {x : Addr} {len cap size : Nat} {xs : List Value} (hl : xs.length = len * size) (hs : 0 < size) (hlc : len ≤ cap) (hcm : cap ≤ maxLen) (hF : ¬ F x.block)
    (hc : ∀ i (hi : i < xs.length), w.cell? (x.add i) = some xs[i]) : RdV F w size (.slice (some x) len cap) len xs := by
  refine ⟨hl, _, _, rfl, hlc, hcm, by simp, fun hn => ?_⟩
  have hpos : 0 < xs.length := by rw [hl]; exact Nat.mul_pos hn hs
  have h0 := hc 0 hpos
  rw [show x.add 0 = x by simp [Addr.add]] at h0
  obtain ⟨hs', cur, e, fr, hh, _⟩ := cell_block h0
  obtain ⟨g, off, spot⟩ := x
  simp only at hs' hh hF
  subst hs'
  refine ⟨g, off, cur, e, fr, rfl, hF, hh, ?_⟩
  apply List.ext_getElem?
  intro i
  rw [List.getElem?_take]
  by_cases hi : i < xs.length
  · rw [if_pos (by omega), List.getElem?_drop, List.getElem?_eq_getElem hi]
    have h := hc i hi
    rw [addr_add, cell_of_row w g (off + i) cur e fr hh] at h
    simpa using h
  · rw [if_neg (by omega), List.getElem?_eq_none (by omega)]

section
variable {H : Type} {enc : TypeId × Value → H}

/-- bytes that lie in a cell -/
theorem open_bytes_cell {w : World} {base fuel : Nat} {spare : Nat → Bool} {held : Bool} {v : Value} {x : DataW H × List MemPlace} (h : DataW.trod enc Tryz.prog w base spare held fuel 41 [v] = some x) :
    ∃ l : List UInt8, RdB NoF w v l := by
  rcases open_ints Tryz.underlying41 Tryz.underlying5 (by kernel_rfl) h with ⟨hcs, hx⟩ | ⟨x, len, c, zs, hcs, _, hl, hm, hz, hx, hcell, hwz⟩
  · obtain rfl : v = .slice none 0 0 := by simpa using hcs
    exact ⟨[], RdB.nil _ _⟩
  · obtain rfl : v = .slice (some x) len c := by simpa using hcs
    have hlen : len ≤ zs.length := by rw [hz]; split <;> omega
    refine ⟨(zs.take len).map fun n => UInt8.ofNat n.toNat, rd_of_cells (by simp; omega) hl hm (noF _) (fun i hi => ?_)⟩
    have hi' : i < zs.length := by simp at hi; omega
    rw [hcell i hi']
    have hw := hwz (zs.getD i 0) (by rw [List.getD_eq_getElem?_getD, List.getElem?_eq_getElem hi']; exact List.getElem_mem hi')
    have hb := bounds_u8 hw
    simp only [List.getElem_map, List.getElem_take, UInt8.toNat_ofNat']
    rw [List.getD_eq_getElem?_getD, List.getElem?_eq_getElem hi'] at hb ⊢
    simp only [Option.getD_some] at hb ⊢
    congr 2
    omega

theorem list_of_fun {α : Type} {n : Nat} {P : Nat → α → Prop} (h : ∀ i, i < n → ∃ x, P i x) : ∃ l : List α, l.length = n ∧ ∀ i (hi : i < l.length), P i l[i] := by
  induction n with
  | zero => exact ⟨[], rfl, fun i hi => absurd hi (Nat.not_lt_zero _)⟩
  | succ n ih =>
    obtain ⟨l, hl, hP⟩ := ih (fun i hi => h i (by omega))
    obtain ⟨x, hx⟩ := h n (by omega)
    refine ⟨l ++ [x], by simp [hl], fun i hi => ?_⟩
    by_cases hin : i < l.length
    · rw [List.getElem_append_left hin]; exact hP i hin
    · have : i = n := by simp [hl] at hi; omega
      subst this
      rw [List.getElem_append_right (by omega)]
      simpa [hl] using hx

end

section
variable {F F' : Foot} {w w' : World} {v : Value} {l : List Deed}

theorem DeedsAt.keep (h : DeedsAt F w v l) (hk : ∀ k, k < w.heap.size → ¬ F k → w'.heap[k]? = w.heap[k]?) (hF : ∀ k, k < w.heap.size → F' k → F k) : DeedsAt F' w' v l :=
  ⟨h.row.keep hk hF, fun d hd => RdV.keep (h.rd d hd) hk hF, h.lo, h.hi⟩
theorem DeedsAt.chg (h : DeedsAt F w v l) (hc : Chg F F' w w') : DeedsAt F' w' v l := ⟨h.row.chg hc, fun d hd => (h.rd d hd).chg hc, h.lo, h.hi⟩
theorem DeedsAt.drewN (h : DeedsAt F w v l) (k : Nat) : DeedsAt F (w.drewN k) v l := ⟨h.row, h.rd, h.lo, h.hi⟩

/-- a deed's cells -/
theorem DeedsAt.at_ (h : DeedsAt F w v l) (i : Nat) (hi : i < l.length) : ∃ g off c, v = .slice (some ⟨g, off, none⟩) l.length c ∧ l.length ≤ c ∧ c ≤ maxLen ∧
    w.cell? ⟨g, off + i * 3, none⟩ = some (.int .i64 l[i].op) ∧ w.cell? ⟨g, off + i * 3 + 1, none⟩ = some (.int .i64 l[i].n) ∧ w.cell? ⟨g, off + i * 3 + 2, none⟩ = some l[i].v := by
  obtain ⟨g, off, c, hv, h1, h2, _, _, hc⟩ := h.row.at_ (by omega)
  refine ⟨g, off, c, hv, h1, h2, ?_, ?_, ?_⟩
  · have := hc (i * 3 + 0) _ (by rw [deeds_get l i 0 hi (by decide)]; rfl)
    exact this
  · have := hc (i * 3 + 1) _ (by rw [deeds_get l i 1 hi (by decide)]; rfl)
    rwa [← Nat.add_assoc] at this
  · have := hc (i * 3 + 2) _ (by rw [deeds_get l i 2 hi (by decide)]; rfl)
    rwa [← Nat.add_assoc] at this
end

/-- a law at work on a device of its own: W0 is the world at its beginning -/
structure LawAt (W0 w : World) (D : Nat) (E F : Foot) (m : DM) : Prop where
  disk : DiskAt w D E F m
  below : Below W0.heap.size W0 w
  own : ∀ k, F k → W0.heap.size ≤ k

section
variable {W0 w w' : World} {D : Nat} {E F F' : Foot} {m m' : DM}

theorem LawAt.chg (h : LawAt W0 w D E F m) (hd : DiskAt w' D E F' m') (hc : Chg F F' w w') : LawAt W0 w' D E F' m' :=
  ⟨hd, h.below.trans (hc.below h.below.size (fun k hk hF => by have := h.own k hF; omega)), fun k hk => by
    rcases hc.foot k hk with h1 | h1
    · exact h.own k h1
    · have := h.below.size; omega⟩
theorem LawAt.drewN (h : LawAt W0 w D E F m) (k : Nat) : LawAt W0 (w.drewN k) D E F m := ⟨h.disk.drewN k, below_drewN h.below k, h.own⟩
theorem LawAt.more (h : LawAt W0 w D E F m) (o : Obj) : LawAt W0 (w.alloc o) D E F m :=
  ⟨h.disk.below ((Below.refl _ _).alloc (Nat.le_refl _) o), below_more h.below o, h.own⟩
theorem LawAt.grow (h : LawAt W0 w D E F m) (hb : Below w.heap.size w w') : LawAt W0 w' D E F m := ⟨h.disk.below hb, h.below.trans (hb.mono h.below.size), h.own⟩
theorem LawAt.new (hb : Below W0.heap.size W0 w) (pages room : Nat) {E : Foot} (hE : ∀ k, E k → k < w.heap.size) (h1 : pages ≤ 65536) (h2 : room ≤ 16777216) : LawAt W0 (newWorld w pages room) (w.heap.size + 2) E (newFoot w) (DM.new pages room) :=
  ⟨new_disk w pages room hE h1 h2, by unfold newWorld; exact below_more (below_more (below_more hb _) _) _, fun k hk => by
    have := hb.size
    unfold newFoot at hk
    omega⟩
theorem LawAt.rd (h : LawAt W0 w D E F m) {size n : Nat} {v : Value} {xs : List Value} (hr : RdV NoF W0 size v n xs) : RdV F w size v n xs :=
  hr.keep (fun k hk _ => h.below.block k hk) (fun k hk hF => by have := h.own k hF; omega)
theorem LawAt.rdB (h : LawAt W0 w D E F m) {v : Value} {b : Bytes} (hr : RdB NoF W0 v b) : RdB F w v b := h.rd hr
theorem LawAt.deeds (h : LawAt W0 w D E F m) {v : Value} {l : List Deed} (hr : DeedsAt NoF W0 v l) : DeedsAt F w v l :=
  hr.keep (fun k hk _ => h.below.block k hk) (fun k hk hF => by have := h.own k hF; omega)
theorem LawAt.lt (h : LawAt W0 w D E F m) (k : Nat) (hk : F k) : k < w.heap.size := h.disk.foot_lt k hk

theorem LawAt.chgE {E' : Foot} (h : LawAt W0 w D E F m) (hc : Chg E E' w w') (hE : ∀ k, E k → W0.heap.size ≤ k) : LawAt W0 w' D E' F m :=
  ⟨h.disk.chgE hc, h.below.trans (hc.below h.below.size (fun k hk hF => by have := hE k hF; omega)), h.own⟩
theorem LawAt.growE {E' : Foot} (h : LawAt W0 w D E F m) (hb : Below w.heap.size w w') (hE : ∀ k, E' k → E k ∨ (w.heap.size ≤ k ∧ k < w'.heap.size)) : LawAt W0 w' D E' F m :=
  ⟨h.disk.grow hb hE, h.below.trans (hb.mono h.below.size), h.own⟩
theorem rdU_F {size n : Nat} {v : Value} {xs : List Value} (h : RdV (fun k => F k ∨ E k) w size v n xs) (hc : Chg F F' w w') : RdV (fun k => F' k ∨ E k) w' size v n xs :=
  h.keep (fun k h1 h2 => hc.block k h1 (fun e => h2 (.inl e))) (fun k h1 h2 => h2.imp (fun h3 => (hc.foot k h3).elim id (fun h4 => by omega)) id)
theorem rdU_E {E' : Foot} {size n : Nat} {v : Value} {xs : List Value} (h : RdV (fun k => F k ∨ E k) w size v n xs) (hc : Chg E E' w w') : RdV (fun k => F k ∨ E' k) w' size v n xs :=
  h.keep (fun k h1 h2 => hc.block k h1 (fun e => h2 (.inr e))) (fun k h1 h2 => h2.imp id (fun h3 => (hc.foot k h3).elim id (fun h4 => by omega)))

/-- the four ways of an operation -/
theorem ask_cases (m : DM) (op n : Int) (b : Bytes) :
    (m.dead = true ∧ m.ask op n b = (m, 9)) ∨ (m.dead = false ∧ ((m.ask op n b) = (m, 1) ∨ (m.ask op n b) = (m, 7))) ∨
    (m.dead = false ∧ m.fuse = 0 ∧ (m.ask op n b).2 = 9 ∧ (m.ask op n b).1.dead = true ∧ (m.ask op n b).1.ops = m.ops ∧ (m.ask op n b).1.fuse = m.fuse) ∨
    (m.dead = false ∧ m.fuse ≠ 0 ∧ (m.ask op n b).2 = 0 ∧ (m.ask op n b).1.dead = false ∧ (m.ask op n b).1.ops = m.ops + 1 ∧ (m.ask op n b).1.fuse = if 0 < m.fuse then m.fuse - 1 else m.fuse) := by
  cases hd : m.dead with
  | true =>
    refine .inl ⟨rfl, ?_⟩
    unfold DM.ask DM.write DM.sync DM.append DM.force DM.cut DM.trim DM.setMark
    simp [hd]
  | false =>
    refine .inr ?_
    by_cases hf : m.fuse = 0
    · have e : m.spend = { m with dead := true } := by unfold DM.spend; rw [if_pos hf]
      unfold DM.ask DM.write DM.sync DM.append DM.force DM.cut DM.trim DM.setMark
      simp only [hd, hf, e, if_true]
      repeat' split
      all_goals simp_all
    · have e : m.spend = { m with fuse := if 0 < m.fuse then m.fuse - 1 else m.fuse, ops := m.ops + 1 } := by unfold DM.spend; rw [if_neg hf]
      unfold DM.ask DM.write DM.sync DM.append DM.force DM.cut DM.trim DM.setMark
      simp only [hd, hf, e, if_false]
      repeat' split
      all_goals simp_all
end
end Mun
end

section
/- Deeds of chapter 8 handed in. -/
set_option maxRecDepth 100000
set_option linter.unusedVariables false
namespace Mun
open Go Go.RowKit Go.ChangeShapes Go.WideShapes
open Go.Proofs

section
variable {H : Type} {enc : TypeId × Value → H}

theorem open_deeds8 {w : World} {r : Reach} {b0 base : Nat} {spare : Nat → Bool} {held : Bool} {v : Value} {d : DataW H} {p : List MemPlace}
    (hv : Value.okWide Tryz.prog w r b0 22 v) (h : DataW.Trod enc Tryz.prog w base spare held 22 v d p) :
    ∃ l : List Deed, DeedsAt NoF w v l ∧ ((d = .nil ∧ l = []) ∨ ∃ el sp, d = .slice el sp ∧ l.length ≤ el.length + sp.length) := by
  obtain ⟨a0, len0, cap0, rfl⟩ := okWide_slice Tryz.underlying22 hv
  obtain ⟨fuel, hf⟩ := h
  rcases Deep.open_slice Tryz.underlying22 hf with ⟨hcs, hx⟩ | ⟨x, len, c, m, n, D, Pl, hcs, _, hl, hm, hmm, hx, hi⟩
  · simp [Value.cells] at hcs
    obtain ⟨rfl, rfl, rfl⟩ := hcs
    simp only [Prod.mk.injEq] at hx
    exact ⟨[], ⟨RdV.nil _ _ _, by simp, by simp, by simp⟩, .inl ⟨hx.1, rfl⟩⟩
  · simp [Value.cells] at hcs
    obtain ⟨rfl, rfl, rfl⟩ := hcs
    simp only [Prod.mk.injEq] at hx
    have hC : Tryz.prog.cellsOf 43 = 3 := by kernel_rfl
    rw [hC] at hi
    have hlm : len0 ≤ m := by rw [hmm]; split <;> omega
    have hel : ∀ i, i < len0 → ∃ e : Deed, (∀ j (hj : j < 3), w.cell? (x.add (i * 3 + j)) = e.cells[j]?) ∧ RdB NoF w e.v e.b ∧ -9223372036854775808 ≤ e.n ∧ e.n ≤ 9223372036854775807 := by
      intro i hi0
      obtain ⟨cs', hc, ht'⟩ := hi i (by omega)
      obtain ⟨xs, n', _, _, _, hlen, hf'⟩ := DataW.trod_struct Tryz.underlying43 ht'
      obtain ⟨_, hcl, hat⟩ := World.cells?_some hc
      match cs', hcl with
      | [c0, c1, c2], _ =>
        have e0 : Tryz.prog.cellsOf 3 = 1 := by kernel_rfl
        have e2 : Tryz.prog.cellsOf 41 = 1 := by kernel_rfl
        have f0 : DataW.trod enc Tryz.prog w base spare held n' 3 (([c0, c1, c2].drop 0).take (Tryz.prog.cellsOf 3)) = xs[0]? := hf' 0 _ rfl
        have f1 : DataW.trod enc Tryz.prog w base spare held n' 3 (([c0, c1, c2].drop 1).take (Tryz.prog.cellsOf 3)) = xs[1]? := hf' 1 _ rfl
        have f2 : DataW.trod enc Tryz.prog w base spare held n' 41 (([c0, c1, c2].drop 2).take (Tryz.prog.cellsOf 41)) = xs[2]? := hf' 2 _ rfl
        rw [e0] at f0 f1
        rw [e2] at f2
        have hlen3 : xs.length = 3 := hlen
        rw [List.getElem?_eq_getElem (by omega)] at f0 f1 f2
        obtain ⟨z0, h0, _, hw0⟩ := DataW.trod_int Tryz.underlying3 f0
        obtain ⟨z1, h1, _, hw1⟩ := DataW.trod_int Tryz.underlying3 f1
        obtain ⟨l2, h2⟩ := open_bytes_cell f2
        obtain rfl : c0 = .int .i64 z0 := by simpa using h0
        obtain rfl : c1 = .int .i64 z1 := by simpa using h1
        have hb := bounds_i64 hw1
        refine ⟨⟨z0, z1, l2, c2⟩, fun j hj => ?_, h2, hb.1, by have := hb.2; omega⟩
        have := hat j hj
        rw [Go.Deep.add_add] at this
        exact this
    obtain ⟨l, hll, hP⟩ := list_of_fun hel
    subst hll
    refine ⟨l, ⟨?_, fun e he => ?_, fun e he => ?_, fun e he => ?_⟩, .inr ⟨_, _, hx.1, by simp⟩⟩
    · refine rdV_of_cells (deeds_length l) (by decide) hl hm (noF _) (fun i hi' => ?_)
      have hi3 : i / 3 < l.length := by rw [deeds_length] at hi'; omega
      have := (hP (i / 3) hi3).1 (i % 3) (Nat.mod_lt _ (by decide))
      have e : i / 3 * 3 + i % 3 = i := by omega
      rw [e] at this
      rw [this, ← deeds_get l (i / 3) (i % 3) hi3 (Nat.mod_lt _ (by decide)), e, List.getElem?_eq_getElem hi']
    · obtain ⟨i, hi', rfl⟩ := List.getElem_of_mem he
      exact (hP i hi').2.1
    · obtain ⟨i, hi', rfl⟩ := List.getElem_of_mem he
      exact (hP i hi').2.2.1
    · obtain ⟨i, hi', rfl⟩ := List.getElem_of_mem he
      exact (hP i hi').2.2.2

theorem deeds_reach8 {ts : List TypeId} {ds : List (DataW H)} {j : Nat} {d : DataW H} {l : List Deed} (hsz : (DataW.weightsEach Tryz.prog ts ds).all (· ≤ reachBytes) = true)
    (htj : ts[j]? = some 22) (hdj : ds[j]? = some d)
    (h : (d = .nil ∧ l = []) ∨ ∃ el sp, d = .slice el sp ∧ l.length ≤ el.length + sp.length) : l.length ≤ 3518437208882 := by
  rcases h with ⟨_, rfl⟩ | ⟨el, sp, rfl, hl⟩
  · simp
  · have := sized_slice hsz htj hdj Tryz.underlying22
    have hb : Tryz.prog.bytesOf 43 = 40 := by kernel_rfl
    rw [hb] at this
    simp only [reachBytes] at this
    omega
end
end Mun
end

section
/- Plain: the low bits of an int. -/
set_option maxRecDepth 100000
set_option linter.unusedVariables false
namespace Mun
open Go Go.RowKit
open Go.Proofs

theorem i64_and_low (n : Int) (k : Nat) (hk : k < 63) (c : Int) (hc : c = ((2 ^ k - 1 : Nat) : Int)) (hcb : (BitVec.ofInt 64 c).toNat = 2 ^ k - 1) : bits .and .i64 n c = n % ((2 ^ k : Nat) : Int) := by
  have key : (BitVec.ofInt 64 n &&& BitVec.ofInt 64 c).toNat = (n % ((2 ^ 64 : Nat) : Int)).toNat % 2 ^ k := by
    rw [BitVec.toNat_and, BitVec.toNat_ofInt, hcb, Nat.and_two_pow_sub_one_eq_mod]
  show IntKind.i64.wrap ((BitVec.ofInt 64 n &&& BitVec.ofInt 64 c).toNat : Nat) = _
  rw [key, IntKind.wrap_i64]
  have h2 : (2 : Nat) ^ k < 2 ^ 63 := Nat.pow_lt_pow_right (by decide) hk
  have hpos : 0 < (2 : Nat) ^ k := Nat.two_pow_pos k
  have hm : (n % ((2 ^ 64 : Nat) : Int)).toNat % 2 ^ k < 2 ^ k := Nat.mod_lt _ hpos
  have hd : ((2 ^ k : Nat) : Int) ∣ ((2 ^ 64 : Nat) : Int) := Int.natCast_dvd_natCast.2 (Nat.pow_dvd_pow 2 (by omega))
  have e1 : (((n % ((2 ^ 64 : Nat) : Int)).toNat % 2 ^ k : Nat) : Int) = n % ((2 ^ k : Nat) : Int) := by
    rw [Int.natCast_emod, Int.toNat_of_nonneg (Int.emod_nonneg _ (by decide)), Int.emod_emod_of_dvd _ hd]
  rw [e1]
  have hlo : 0 ≤ n % ((2 ^ k : Nat) : Int) := Int.emod_nonneg _ (by omega)
  have hhi : n % ((2 ^ k : Nat) : Int) < ((2 ^ k : Nat) : Int) := Int.emod_lt_of_pos _ (by omega)
  omega

theorem i64_and15 (n : Int) : ∃ q : Nat, bits .and .i64 n 15 = (q : Int) ∧ q ≤ 15 := by
  refine ⟨(n % 16).toNat, ?_, by omega⟩
  rw [i64_and_low n 4 (by decide) 15 (by decide) (by decide)]
  omega

end Mun
end
