/- Contract of a device's Sync. -/
import Derived.Test.YtmlggofojdhmmaaDiskF
set_option maxRecDepth 100000
set_option linter.unusedVariables false
namespace Mun
open Go Go.RowKit
open Go.Proofs

theorem nodup_inj {α β : Type} {f : α → β} : ∀ {l : List α}, (l.map f).Nodup → ∀ {x y : α}, x ∈ l → y ∈ l → f x = f y → x = y
  | [], _, x, y, hx, _, _ => by simp at hx
  | a :: l, h, x, y, hx, hy, e => by
    simp only [List.map_cons, List.nodup_cons] at h
    rcases List.mem_cons.1 hx with rfl | hx' <;> rcases List.mem_cons.1 hy with rfl | hy'
    · rfl
    · exact absurd (e ▸ List.mem_map_of_mem hy') h.1
    · exact absurd (e ▸ List.mem_map_of_mem hx') h.1
    · exact nodup_inj h.2 hx' hy' e

theorem filter_lt {α : Type} (f g : α → Bool) : ∀ (l : List α), (∀ x ∈ l, g x = true → f x = true) → (∃ x ∈ l, f x = true ∧ g x = false) → (l.filter g).length < (l.filter f).length
  | [], _, ⟨x, hx, _⟩ => by simp at hx
  | a :: l, hs, hex => by
    have hle : (l.filter g).length ≤ (l.filter f).length := by
      clear hex
      induction l with
      | nil => simp
      | cons b l ih =>
        have ih' := ih (fun x hx => hs x (by rcases List.mem_cons.1 hx with h | h <;> simp [h]))
        have hb := hs b (by simp)
        simp only [List.filter_cons]
        cases hg : g b with
        | true => simp [hb hg]; exact ih'
        | false => cases f b <;> simp <;> omega
    obtain ⟨x, hx, hf, hg⟩ := hex
    simp only [List.filter_cons]
    rcases List.mem_cons.1 hx with rfl | hx
    · simp [hf, hg]; omega
    · have ih := filter_lt f g l (fun y hy => hs y (by simp [hy])) ⟨x, hx, hf, hg⟩
      have ha := hs a (by simp)
      cases hga : g a with
      | true => simp [ha hga]; exact ih
      | false => cases f a <;> simp <;> omega

/-- a round of Sync's loop -/
structure SyncR (w3 : World) (D : Nat) (m : DM) (d : DV) (l : List ((Int × Value) × Nat)) (c : Nat) (seen : Array Nat) (pg : Array Value) (wr : World) : Prop where
  it : wr.heap[w3.heap.size]? = some (.mapIter (some d.M) c seen c)
  size : wr.heap.size = w3.heap.size + 1
  same : ∀ k, k < w3.heap.size → k ≠ d.P → wr.heap[k]? = w3.heap[k]?
  pgs : wr.heap[d.P]? = some (.cells pg 28 (0, 0))
  pgn : pg.size = m.base.length
  pg1 : ∀ p ∈ l, seen.contains p.2 = true → ∀ i : Nat, p.1.1 = i → pg[i]? = some p.1.2
  pg2 : ∀ i : Nat, (∀ p ∈ l, p.1.1 = i → seen.contains p.2 = false) → pg[i]? = d.pg[i]?
  os : wr.os = w3.os
  tape : wr.tape = w3.tape
  output : wr.output = w3.output

def unseen (l : List ((Int × Value) × Nat)) (r : Nat) (w : World) : Nat :=
  match w.heap[r]? with
  | some (.mapIter _ _ seen _) => (l.filter fun p => !seen.contains p.2).length
  | _ => 0

section
variable {w3 wr : World} {D : Nat} {m : DM} {d : DV} {l : List ((Int × Value) × Nat)} {c : Nat} {seen : Array Nat} {pg : Array Value}

theorem SyncR.start (h : DRep w3 D (dfootE D d) m d) (hl : IMapC w3 d.M l c) : SyncR w3 D m d l c #[] d.pg (w3.alloc (.mapIter (some d.M) c #[] c)) :=
  ⟨heap_alloc_new w3 _, World.size_alloc _ _, fun k hk _ => alloc_get w3 _ k hk, (alloc_get w3 _ _ (Array.getElem?_eq_some_iff.1 h.pgs).1).trans h.pgs, h.pgn, fun p _ hs => by simp at hs, fun _ _ => rfl, rfl, rfl, rfl⟩

theorem SyncR.drew (h : SyncR w3 D m d l c seen pg wr) : SyncR w3 D m d l c seen pg wr.drew := ⟨h.it, h.size, h.same, h.pgs, h.pgn, h.pg1, h.pg2, h.os, h.tape, h.output⟩

/-- one page more -/
theorem SyncR.step (h : SyncR w3 D m d l c seen pg wr) (hd : DRep w3 D (dfootE D d) m d) (hl : IMapC w3 d.M l c) {p : (Int × Value) × Nat} (hp : p ∈ l) (q : Nat) (hq : p.1.1 = q) (hn : q < m.base.length) :
    SyncR w3 D m d l c (seen.push p.2) (pg.setIfInBounds q p.1.2) ((setObjW wr w3.heap.size (.mapIter (some d.M) c (seen.push p.2) c)).setCell ⟨d.P, q, none⟩ p.1.2) := by
  have hPr : d.P ≠ w3.heap.size := by have := (Array.getElem?_eq_some_iff.1 hd.pgs).1; omega
  refine ⟨?_, by rw [setCell_size, setObjW_size]; exact h.size, ?_, ?_, by simp [h.pgn], ?_, ?_, h.os, h.tape, h.output⟩
  · rw [setCell_heap _ _ _ _ (Ne.symm hPr), setObjW_same h.it]
  · intro k hk hkP
    rw [setCell_heap _ _ _ _ hkP, setObjW_other _ _ _ _ (by omega)]
    exact h.same k hk hkP
  · rw [setCell_blk (e := 28) (c := pg)]
    rw [setObjW_other _ _ _ _ hPr]
    exact h.pgs
  · intro p' hp' hs i hi
    have hk := hl.1
    by_cases e : p'.1.1 = p.1.1
    · have hpp : p' = p := by
        exact nodup_inj hk hp' hp e
      subst hpp
      obtain rfl : i = q := by omega
      rw [Array.getElem?_setIfInBounds]
      simp [h.pgn, hn]
    · have hiq : ¬ q = i := by omega
      rw [Array.getElem?_setIfInBounds, if_neg hiq]
      refine h.pg1 p' hp' ?_ i hi
      have hb := hl.2.1
      have hne : p'.2 ≠ p.2 := fun e' => e (by rw [nodup_inj hb hp' hp e'])
      simpa [hne] using hs
  · intro i hi
    have hiq : ¬ q = i := by
      rintro rfl
      have := hi p hp hq
      simp at this
    rw [Array.getElem?_setIfInBounds, if_neg hiq]
    refine h.pg2 i (fun p' hp' hpi => ?_)
    have := hi p' hp' hpi
    simp at this ⊢
    exact this.1

theorem alook_mem (es : List (Int × Value)) (h : (es.map (·.1)).Nodup) {p : Int × Value} (hp : p ∈ es) : alook es p.1 = some p.2 := by
  unfold alook
  have : es.find? (·.1 == p.1) = some p := by
    induction es with
    | nil => simp at hp
    | cons a es ih =>
      simp only [List.map_cons, List.nodup_cons] at h
      simp only [List.find?_cons]
      rcases List.mem_cons.1 hp with rfl | hp
      · simp
      · have : (a.1 == p.1) = false := by
          simp only [beq_eq_false_iff_ne]
          intro e
          exact h.1 (e ▸ List.mem_map_of_mem hp)
        rw [this]
        exact ih h.2 hp
  rw [this]; rfl

/-- a key of the map is a page -/
theorem DRep.keyIn (h : DRep w3 D (dfootE D d) m d) (hwf : m.Wf) (hl : IMapC w3 d.M l c) (hes : l.map (·.1) = d.es) {p : (Int × Value) × Nat} (hp : p ∈ l) : ∃ q : Nat, p.1.1 = q ∧ q < m.base.length := by
  have hmem : p.1 ∈ d.es := by rw [← hes]; exact List.mem_map_of_mem hp
  have hnd : (d.es.map (·.1)).Nodup := by rw [← hes, List.map_map]; exact hl.1
  have ha := alook_mem d.es hnd hmem
  have h0 : 0 ≤ p.1.1 := by
    rcases Int.lt_or_le p.1.1 0 with hlt | hge
    · rw [h.mpk _ hlt] at ha; cases ha
    · exact hge
  obtain ⟨q, hq⟩ : ∃ q : Nat, p.1.1 = q := ⟨p.1.1.toNat, by omega⟩
  refine ⟨q, hq, ?_⟩
  rw [hq, h.mpe] at ha
  cases hw : lastW d.ws q with
  | none => rw [hw] at ha; cases ha
  | some x =>
    have hm := lastW_mem hw
    exact (hwf.waiting (q, x.1) (by rw [h.wws]; exact List.mem_map.2 ⟨_, hm, rfl⟩)).1

/-- what Sync has laid: all pages as they were written last -/
theorem SyncR.done (h : SyncR w3 D m d l c seen pg wr) (hd : DRep w3 D (dfootE D d) m d) (hl : IMapC w3 d.M l c) (hes : l.map (·.1) = d.es) (hall : ∀ p ∈ l, seen.contains p.2 = true) (i : Nat) (hi : i < m.base.length) :
    ∃ v, pg[i]? = some v ∧ PgV (dfootE D d) w3 v (m.page i) := by
  obtain ⟨v, h1, h2⟩ := hd.pageV i hi
  have hnd : (d.es.map (·.1)).Nodup := by rw [← hes, List.map_map]; exact hl.1
  cases ha : alook d.es i with
  | none =>
    rw [ha] at h2
    refine ⟨v, ?_, h2⟩
    rw [h.pg2 i ?_, h1]
    intro p hp hpi
    have := alook_mem d.es hnd (p := p.1) (by rw [← hes]; exact List.mem_map_of_mem hp)
    rw [hpi, ha] at this
    cases this
  | some u =>
    rw [ha] at h2
    refine ⟨u, ?_, h2⟩
    obtain ⟨p, hp, hpe⟩ : ∃ p ∈ l, p.1 = ((i : Int), u) := by
      unfold alook at ha
      obtain ⟨y, hy, hyu⟩ := Option.map_eq_some_iff.1 ha
      have e1 := List.find?_some hy
      have e2 := List.mem_of_find?_eq_some hy
      rw [← hes] at e2
      obtain ⟨p, hp, rfl⟩ := List.mem_map.1 e2
      simp only [beq_iff_eq] at e1
      exact ⟨p, hp, by rw [← e1, ← hyu]⟩
    have := h.pg1 p hp (hall p hp) i (by rw [hpe])
    rw [this, hpe]

theorem settled_length (m : DM) : m.settled.length = m.base.length := by simp [DM.settled]
theorem settled_get (m : DM) (i : Nat) (h : i < m.settled.length) : m.settled[i] = m.page i := by simp [DM.settled]
theorem page_spend (m : DM) (i : Nat) : m.spend.page i = m.page i := by unfold DM.page; rw [spend_waiting, spend_base]

/-- the device behind a Sync -/
theorem DRep.synced {m' : DM} (hd : DRep w3 D (dfootE D d) m d) (hpn : pg.size = m.base.length) (hpv : ∀ i, i < m.base.length → ∃ v, pg[i]? = some v ∧ PgV (dfootE D d) w3 v (m.page i))
    (hsame : ∀ k, k < w3.heap.size → k ≠ D → k ≠ d.P → k ≠ d.M → wr.heap[k]? = w3.heap[k]?)
    (hblk : wr.heap[D]? = some (.cells (dcells m' m'.base.length { d with wv := .slice none 0 0, ws := [], es := [], pg := pg }) 66 (0, 0)))
    (hpg : wr.heap[d.P]? = some (.cells pg 28 (0, 0))) (hmp : IMap wr d.M [])
    (hb : m'.base = m.settled) (hw : m'.waiting = []) (hl : m'.log = m.log) (hm : m'.mark = m.mark) (ht : m'.torn = m.torn) (htl : m'.tail = m.tail) :
    DRep wr D (dfootE D { d with wv := .slice none 0 0, ws := [], es := [], pg := pg }) m' { d with wv := .slice none 0 0, ws := [], es := [], pg := pg } := by
  have ko : ∀ k, k < w3.heap.size → ¬ dfootE D d k → wr.heap[k]? = w3.heap[k]? := fun k h1 h2 => hsame k h1 (fun e => h2 (.inl (.inl e))) (fun e => h2 (.inl (.inr (.inl e)))) (fun e => h2 (.inl (.inr (.inr (.inl e)))))
  have hF0 : ∀ k, k < w3.heap.size → dfoot D { d with wv := .slice none 0 0, ws := [], es := [], pg := pg } k → dfoot D d k := by
    intro k hk h
    rcases h with h | h | h | h | h
    · exact .inl h
    · exact .inr (.inl h)
    · exact .inr (.inr (.inl h))
    · simp [Value.ownBlock] at h
    · exact .inr (.inr (.inr (.inr h)))
  have hF : ∀ k, k < w3.heap.size → dfootE D { d with wv := .slice none 0 0, ws := [], es := [], pg := pg } k → dfootE D d k := fun k hk h => h.imp (hF0 k hk) id
  refine ⟨hblk, hpg, by rw [hb, settled_length]; exact hpn, fun i hi => ?_, World.ownsRow_nil _ _ _ _, hw, by simp, hmp, fun _ => rfl, fun _ _ => rfl, ?_, ?_, ?_, ?_,
    fun k hE => lt_of_same (hd.elt k hE) (hsame k (hd.elt k hE) (fun e => hd.eown k hE (.inl e)) (fun e => hd.eown k hE (.inr (.inl e))) (fun e => hd.eown k hE (.inr (.inr (.inl e))))), fun k hE h => hd.eown k hE (hF0 k (hd.elt k hE) h)⟩
  · have hi' : i < m.base.length := by rw [hb, settled_length] at hi; exact hi
    obtain ⟨v, h1, h2⟩ := hpv i hi'
    refine ⟨v, h1, ?_⟩
    have : m'.base[i] = m.page i := by
      rw [← settled_get m i (by rw [settled_length]; exact hi')]
      congr 1
    rw [this]
    exact h2.keep ko hF
  · rw [hl]
    exact ownsRow_keep hd.log (fun k h' => hsame k (hd.log.lt k h').2 (fun e => hd.neL (e ▸ h')) (fun e => hd.nePL (e ▸ h')) (fun e => hd.neML (e ▸ h')))
  · rw [hm]; exact RdV.keep hd.mark ko hF
  · rw [htl]; exact RdV.keep hd.tail ko hF
  · rw [ht]; exact hd.torn.keep ko hF
end

section
variable (w : World) (D : Nat) (F : Foot) {E : Foot} (m : DM)

set_option maxHeartbeats 1000000 in
theorem d_sync (h : DiskAt w D E F m) (ho : m.ops < 4398046511104) : Calls Try.prog 23 #[.pointer (some ⟨D, 0, none⟩)] w (DPost w D E F m.sync) := by
  have h0 := h
  obtain ⟨d, rfl, rfl, h, hwf⟩ := h
  have c9 := h.cell 9
  simp only [dcells] at c9
  cases hd : m.dead with
  | true =>
    rw [hd] at c9
    have HR : Hid (m.sync = (m, 9)) := by show _ = _; simp [DM.sync, hd]
    have HO := Lib.hid h0
    clear h0 h hd hwf
    go_enter Try.func23, Try.ntmps23
    go_wp2
    go_ret
    exact DPost.same HO.out HR.out
  | false =>
    rw [hd] at c9
    have hct := d_counts_rep w D m d h hwf ho
    by_cases hf : m.fuse = 0
    · have HR : Hid (m.sync = (m.spend, 9)) := by show _ = _; simp [DM.sync, hd, hf]
      rw [show decide (m.fuse ≠ 0) = false by simp [hf]] at hct
      have HW := Lib.hid (DM.spend_wf hwf)
      clear h0 h hd hf hwf
      go_enter Try.func23, Try.ntmps23
      go_wp2_with fail
      refine hct.mono ?_
      rintro e w1 ⟨rfl, hr1, hc1⟩
      have HD := Lib.hid hr1
      have HC := Lib.hid hc1
      clear hr1 hc1 hct
      go_wp2
      go_ret
      exact DPost.of HR.out HD.out rfl HW.out HC.out
    · have HR : Hid (m.sync = ({ m.spend with base := m.settled, waiting := [] }, 0)) := by show _ = _; simp [DM.sync, hd, hf]
      rw [show decide (m.fuse ≠ 0) = true by simp [hf]] at hct
      have HW := Lib.hid (DM.spend_wf hwf)
      clear h0 h hd hf hwf
      go_enter Try.func23, Try.ntmps23
      go_wp2_with fail
      refine hct.mono ?_
      rintro e w3 ⟨rfl, hr3, hc3⟩
      have k3 := hr3.cell 3
      simp only [dcells] at k3
      obtain ⟨l, c, hl, hes⟩ := hr3.mp
      have hrg := imap_range (P := Try.prog) Try.underlying63 hl
      have hstart := SyncR.start hr3 hl
      have HD := Lib.hid hr3
      have HC := Lib.hid hc3
      have HL := Lib.hid hl
      have HE := Lib.hid hes
      have HST := Lib.hid hstart
      clear hr3 hc3 hct hl hes hstart
      go_wp2
      go_loopw [] (fun wr => ∃ seen pg, SyncR w3 D m.spend d l c seen pg wr) (fun wr => unseen l w3.heap.size wr)
      case atStart => exact ⟨_, _, HST.out⟩
      case round =>
        obtain ⟨seen, pg, hR⟩ := hrel
        have hMr : d.M ≠ w3.heap.size := by have := HD.out.mp.lt; omega
        have hlr : IMapC wr d.M l c := HL.out.keep (hR.same _ HD.out.mp.lt (Ne.symm HD.out.nePM))
        obtain ⟨v, w0, w', hrun, hw0, hcase⟩ := imap_next (P := Try.prog) (ty := 0) hlr hR.it
        have hnx : ∀ ty, (Instr.next (.pointer (some ⟨w3.heap.size, 0, none⟩)) false ty).run Try.prog wr = _ := fun _ => hrun
        have hR0 : SyncR w3 D m.spend d l c seen pg w0 := by rcases hw0 with rfl | rfl; exact hR; exact hR.drew
        have hu0 : unseen l w3.heap.size wr = (l.filter fun p => !seen.contains p.2).length := by unfold unseen; rw [hR.it]
        rcases hcase with ⟨hall, rfl, rfl⟩ | ⟨p, hp, hns, rfl, rfl⟩
        · have hblk : w'.heap[D]? = _ := (hR0.same D HD.out.D_lt HD.out.neP).trans HD.out.blk
          have k2 : w'.cell? ⟨D, 2, none⟩ = some d.wv := cell_of_row w' D 2 _ _ _ hblk
          have f2 : w'.frozen? ⟨D, 2, none⟩ = false := by simp [World.frozen?, hblk]
          have k3' : w'.cell? ⟨D, 3, none⟩ = some (.map (some d.M)) := cell_of_row w' D 3 _ _ _ hblk
          have hmp : IMap (w'.setCell ⟨D, 2, none⟩ (.slice none 0 0)) d.M (l.map (·.1)) := by
            refine IMap.keep (w := w') ⟨l, c, HL.out.keep (hR0.same _ HD.out.mp.lt (Ne.symm HD.out.nePM)), rfl⟩ ?_
            exact setCell_heap _ _ _ _ (Ne.symm HD.out.neM)
          obtain ⟨o, hcl, hmp2⟩ := imap_clear (P := Try.prog) (ty := 0) Try.underlying63 hmp
          have HB := Lib.hid hblk
          have HALL := Lib.hid hall
          have HM2 := Lib.hid hmp2
          have HR0 := Lib.hid hR0
          clear hmp hmp2 hblk hR0 hall hw0 hR hlr hrun hu0 hMr
          go_wp2
          go_ret
          have hsame : ∀ k, k < w3.heap.size → k ≠ D → k ≠ d.P → k ≠ d.M → (setObjW (w'.setCell ⟨D, 2, none⟩ (.slice none 0 0)) d.M o).heap[k]? = w3.heap[k]? := by
            intro k h1 h2 h3 h4
            rw [setObjW_other _ _ _ _ h4, setCell_heap _ _ _ _ h2]
            exact HR0.out.same k h1 h3
          refine DPost.of HR.out (HD.out.synced (m' := { m.spend with base := m.settled, waiting := [] }) (pg := pg) HR0.out.pgn (HR0.out.done HD.out HL.out HE.out HALL.out) hsame ?_ ?_ HM2.out ?_ rfl rfl rfl rfl rfl) rfl ⟨HW.out.certain, HW.out.room, HW.out.room24, ?_, ?_, ?_, Nat.zero_le _, HW.out.mark, HW.out.fuse1, HW.out.fuse2, ?_, HW.out.alive⟩ (HC.out.trans ⟨HR0.out.os, HR0.out.tape, HR0.out.output, ?_, ?_, ?_⟩)
          · rw [setObjW_other _ _ _ _ HD.out.neM, setCell_blk HB.out]
            have : m.settled.length = m.spend.base.length := by rw [settled_length, spend_base]
            simp [dcells, this]
          · rw [setObjW_other _ _ _ _ HD.out.nePM, setCell_heap _ _ _ _ (Ne.symm HD.out.neP)]
            exact HR0.out.pgs
          · unfold DM.settled
            rw [spend_base]
            exact List.map_congr_left (fun i _ => (page_spend m i).symm)
          · intro b hb
            obtain ⟨i, hi, rfl⟩ := List.mem_map.1 hb
            rw [← page_spend]
            exact DM.page_length HW.out i (by rw [spend_base]; exact List.mem_range.1 hi)
          · show m.settled.length ≤ _
            rw [settled_length, ← spend_base]
            exact HW.out.npages
          · intro p hp; simp at hp
          · intro p hp
            have := HW.out.torn p hp
            refine ⟨?_, this.2⟩
            show p.1 < m.settled.length
            rw [settled_length, ← spend_base]
            exact this.1
          · rw [setObjW_size, setCell_size, HR0.out.size]; omega
          · intro k hk hn
            exact hsame k hk (fun e => hn (.inl e)) (fun e => hn (.inr (.inl e))) (fun e => hn (.inr (.inr (.inl e))))
          · intro k hk
            rcases hk with h | h | h | h | h
            · exact .inl (.inl h)
            · exact .inl (.inr (.inl h))
            · exact .inl (.inr (.inr (.inl h)))
            · simp [Value.ownBlock] at h
            · exact .inl (.inr (.inr (.inr (.inr h))))
        · obtain ⟨q, hq, hqn⟩ := HD.out.keyIn HW.out HL.out HE.out hp
          rw [hq] at hnx
          have hblk0 : w0.heap[D]? = _ := (hR0.same D HD.out.D_lt HD.out.neP).trans HD.out.blk
          obtain ⟨w1, hw1⟩ : ∃ w1, setObjW w0 w3.heap.size (.mapIter (some d.M) c (seen.push p.2) c) = w1 := ⟨_, rfl⟩
          have hDr : D ≠ w3.heap.size := by have := HD.out.D_lt; omega
          have hPr : d.P ≠ w3.heap.size := by have := (Array.getElem?_eq_some_iff.1 HD.out.pgs).1; omega
          have hblk1 : w1.heap[D]? = some (.cells (dcells m.spend m.spend.base.length d) 66 (0, 0)) := by rw [← hw1, setObjW_other _ _ _ _ hDr]; exact hblk0
          have hpg1 : w1.heap[d.P]? = some (.cells pg 28 (0, 0)) := by rw [← hw1, setObjW_other _ _ _ _ hPr]; exact hR0.pgs
          have hl1 : IMapC w1 d.M l c := HL.out.keep (by rw [← hw1, setObjW_other _ _ _ _ hMr]; exact hR0.same _ HD.out.mp.lt (Ne.symm HD.out.nePM))
          have hit1 : w1.heap[w3.heap.size]? = some (.mapIter (some d.M) c (seen.push p.2) c) := by rw [← hw1]; exact setObjW_same hR0.it
          have hen := imap_entry (P := Try.prog) hl1 hp hit1
          have k1 : w1.cell? ⟨D, 1, none⟩ = some (.slice (some ⟨d.P, 0, none⟩) m.base.length m.base.length) := by
            have := cell_of_row w1 D 1 _ _ _ hblk1
            rw [this]
            simp [dcells, spend_base]
          have kq : ∃ u, w1.cell? ⟨d.P, q, none⟩ = some u := by
            rw [cell_of_row w1 d.P q _ _ _ hpg1, Array.getElem?_eq_getElem (by rw [hR0.pgn]; exact hqn)]
            exact ⟨_, rfl⟩
          obtain ⟨uq, kq⟩ := kq
          have fq : w1.frozen? ⟨d.P, q, none⟩ = false := by simp [World.frozen?, hpg1]
          have hval : ∃ a n c, p.1.2 = .slice a n c := by
            have hmem : p.1 ∈ d.es := by rw [← HE.out]; exact List.mem_map_of_mem hp
            have hnd : (d.es.map (·.1)).Nodup := by rw [← HE.out, List.map_map]; exact HL.out.1
            have ha := alook_mem d.es hnd hmem
            rw [hq, HD.out.mpe] at ha
            cases hw : lastW d.ws q with
            | none => rw [hw] at ha; cases ha
            | some x =>
              rw [hw] at ha
              injection ha with ha
              obtain ⟨a, c, hv, -⟩ := (HD.out.wrd _ (lastW_mem hw)).form
              exact ⟨a, _, c, by rw [← ha]; exact hv⟩
          obtain ⟨va, vn, vc, hval⟩ := hval
          have hstep := hR0.step HD.out HL.out hp q hq hqn
          rw [hw1, hval] at hstep
          rw [hw1, hval] at hnx
          rw [hq, hval] at hen
          have hqb : (q : Int) < (m.base.length : Int) := by
            have := hqn
            rw [spend_base] at this
            omega
          have HST := Lib.hid hstep
          have HU := Lib.hid hu0
          have HNS := Lib.hid hns
          have HP := Lib.hid hp
          clear hstep hu0 hns hblk0 hblk1 hpg1 hl1 hit1 hR0 hR hlr hrun hw0 hw1 hqn hDr hPr hMr hval
          go_wp2
          go_roundw
          case rel => exact ⟨_, _, HST.out⟩
          case measure =>
            rw [HU.out]
            unfold unseen
            rw [HST.out.it]
            refine filter_lt _ _ l (fun x _ hx => ?_) ⟨p, HP.out, by simpa using HNS.out, by simp⟩
            simp at hx ⊢
            exact hx.1
end
end Mun
