/- How a table of locks lies; contracts of New, goes, hold. -/
import Derived.Test.YtbdkhegfmnladaaLockM
import Derived.Deep.DeepCutAuto
set_option maxRecDepth 100000
set_option linter.unusedVariables false
namespace Mun
open Go Go.RowKit
open Go.Proofs

abbrev BL := List (ByteArray × Value)
abbrev UL := List (Int × Value)

/-- block T is a table: its three maps -/
structure TabAt (w : World) (T P W N : Nat) (ps : BL) (ws ns : UL) : Prop where
  blk : w.heap[T]? = some (.cells #[.map (some P), .map (some W), .map (some N)] 66 (0, 0))
  pl : GMap w P ps
  wt : GMap w W ws
  nm : GMap w N ns
/-- block p is a place: its holders, its queue -/
structure PlAt (w : World) (p H : Nat) (q : Value) (hs : UL) : Prop where
  blk : w.heap[p]? = some (.cells #[.map (some H), q] 71 (0, 0))
  hl : GMap w H hs

theorem tabNew_any (w : World) : Calls Try.prog 16 #[] w fun e w' => e = .returned (.pointer (some ⟨w.heap.size + 3, 0, none⟩)) ∧ Below w.heap.size w w' ∧ w'.heap.size = w.heap.size + 4 ∧
    TabAt w' (w.heap.size + 3) w.heap.size (w.heap.size + 1) (w.heap.size + 2) [] [] [] := by
  have hmm := @run_makeMap Try.prog
  go_enter Try.func16, Try.ntmps16
  go_wp2
  go_ret
  refine ⟨rfl, ((((Below.refl _ _).alloc (Nat.le_refl _) _).alloc (by simp) _).alloc (by simp; omega) _).alloc (by simp; omega) _, by simp, ⟨?_, ?_, ?_, ?_⟩⟩
  · have := heap_alloc_new (((w.alloc (.map #[] 0)).alloc (.map #[] 0)).alloc (.map #[] 0)) (.cells #[.map (some w.heap.size), .map (some (w.heap.size + 1)), .map (some (w.heap.size + 1 + 1))] 66)
    simpa using this
  · refine GMap.keep (gmap_new w) ?_
    rw [heap_alloc_old _ _ (by simp; omega), heap_alloc_old _ _ (by simp; omega), heap_alloc_old _ _ (by simp)]
  · have h := gmap_new (α := Int) (w.alloc (.map #[] 0))
    rw [World.size_alloc] at h
    refine GMap.keep h ?_
    rw [heap_alloc_old _ _ (by simp), heap_alloc_old _ _ (by simp)]
  · have h := gmap_new (α := Int) ((w.alloc (.map #[] 0)).alloc (.map #[] 0))
    rw [World.size_alloc, World.size_alloc] at h
    refine GMap.keep h ?_
    rw [heap_alloc_old _ _ (by simp)]

/-- all but an owner hold what goes together with a mode -/
def goesP (hs : UL) (o m : Int) : Bool := hs.all fun p => decide (p.1 = o) || (match p.2 with | .int .i64 k => tog k m | _ => false)
def ModesAt (hs : UL) : Prop := ∀ p ∈ hs, ∃ k, p.2 = .int .i64 k


theorem nodup_inj2 {α β : Type} {f : α → β} : ∀ {l : List α}, (l.map f).Nodup → ∀ {x y : α}, x ∈ l → y ∈ l → f x = f y → x = y
  | [], _, x, y, hx, _, _ => by simp at hx
  | a :: l, h, x, y, hx, hy, e => by
    simp only [List.map_cons, List.nodup_cons] at h
    rcases List.mem_cons.1 hx with rfl | hx' <;> rcases List.mem_cons.1 hy with rfl | hy'
    · rfl
    · exact absurd (e ▸ List.mem_map_of_mem hy') h.1
    · exact absurd (e ▸ List.mem_map_of_mem hx') h.1
    · exact nodup_inj2 h.2 hx' hy' e

def gunseen (l : List ((Int × Value) × Nat)) (r : Nat) (w : World) : Nat :=
  match w.heap[r]? with
  | some (.mapIter _ _ seen _) => (l.filter fun p => !seen.contains p.2).length
  | _ => 0

theorem filter_lt' {β : Type} (p q : β → Bool) : ∀ (l : List β), (∀ x ∈ l, q x = true → p x = true) → (∃ x ∈ l, p x = true ∧ q x = false) → (l.filter q).length < (l.filter p).length
  | [], _, ⟨x, hx, _⟩ => by simp at hx
  | a :: l, h, ⟨x, hx, h1, h2⟩ => by
    have hle : ∀ (l : List β), (∀ x ∈ l, q x = true → p x = true) → (l.filter q).length ≤ (l.filter p).length := by
      intro l
      induction l with
      | nil => intro _; simp
      | cons b l ih =>
        intro hb
        have := ih fun x hx => hb x (by simp [hx])
        have hbb := hb b (by simp)
        simp only [List.filter_cons]
        cases hq : q b <;> cases hp : p b <;> simp_all <;> omega
    have hl := hle l fun x hx => h x (by simp [hx])
    have ha := h a (by simp)
    rcases List.mem_cons.1 hx with rfl | hx
    · simp [h1, h2]; omega
    · have ih := filter_lt' p q l (fun x hx => h x (by simp [hx])) ⟨x, hx, h1, h2⟩
      simp only [List.filter_cons]
      cases hq : q a <;> cases hp : p a <;> simp_all <;> omega

/-- a range over the holders, under way -/
structure GoR (w : World) (H : Nat) (l : List ((Int × Value) × Nat)) (c : Nat) (o m : Int) (seen : Array Nat) (wr : World) : Prop where
  it : wr.heap[w.heap.size]? = some (.mapIter (some H) c seen c)
  bl : Below w.heap.size w wr
  ok : ∀ p ∈ l, seen.contains p.2 = true → p.1.1 = o ∨ ∃ k, p.1.2 = .int .i64 k ∧ tog k m = true

theorem goes_any (w : World) (p H : Nat) (q : Value) (hs : UL) (o m : Int) (h : PlAt w p H q hs) (hm : ModesAt hs) :
    Calls Try.prog 29 #[.pointer (some ⟨p, 0, none⟩), .int .u64 o, .int .i64 m] w fun e w' => e = .returned (.bool (goesP hs o m)) ∧ Below w.heap.size w w' := by
  obtain ⟨l, c, hl, hes⟩ := h.hl
  have hc0 : w.cell? ⟨p, 0, none⟩ = some (.map (some H)) := cell_of_row w p 0 _ _ _ h.blk
  have hrg := gmap_range (P := Try.prog) Try.underlying68 hl
  have HL := Lib.hid hl
  have HE := Lib.hid hes
  clear hl hes h
  have hst : GoR w H l c o m #[] (w.alloc (.mapIter (some H) c #[] c)) := ⟨heap_alloc_new w _, (Below.refl _ _).alloc (Nat.le_refl _) _, fun p _ hs => by simp at hs⟩
  have HST := Lib.hid hst
  clear hst
  go_enter Try.func29, Try.ntmps29
  go_wp2
  go_loopw [] (fun wr => ∃ seen, GoR w H l c o m seen wr) (fun wr => gunseen l w.heap.size wr)
  case atStart => exact ⟨_, HST.out⟩
  case round =>
    obtain ⟨seen, hR⟩ := hrel
    have hHr : H < w.heap.size := (Array.getElem?_eq_some_iff.1 HL.out.2.2.2).1
    have hlr : GMapC wr H l c := HL.out.keep (hR.bl.block H hHr)
    obtain ⟨v, w0, w', hrun, hw0, hcase⟩ := gmap_next (P := Try.prog) (ty := 0) hlr hR.it
    have hnx : ∀ ty, (Instr.next (.pointer (some ⟨w.heap.size, 0, none⟩)) false ty).run Try.prog wr = _ := fun _ => hrun
    have hu0 : gunseen l w.heap.size wr = (l.filter fun p => !seen.contains p.2).length := by unfold gunseen; rw [hR.it]
    have hR0 : GoR w H l c o m seen w0 := by rcases hw0 with rfl | rfl; exact hR; exact ⟨hR.it, below_drewN hR.bl 1, hR.ok⟩
    rcases hcase with ⟨hall, rfl, rfl⟩ | ⟨p, hp, hns, rfl, rfl⟩
    · have hg : goesP hs o m = true := by
        unfold goesP
        rw [List.all_eq_true]
        intro x hx
        rw [← HE.out, List.mem_map] at hx
        obtain ⟨p, hp, rfl⟩ := hx
        rcases hR0.ok p hp (hall p hp) with h | ⟨k, hk, ht⟩
        · simp [h]
        · simp [hk, ht]
      have HR0 := Lib.hid hR0
      have HG := Lib.hid hg
      clear hg hR0 hall hw0 hR hlr hrun hu0 hHr
      go_wp2
      go_ret
      exact ⟨by rw [HG.out]; rfl, HR0.out.bl⟩
    · obtain ⟨k, hk⟩ := hm p.1 (by rw [← HE.out]; exact List.mem_map_of_mem hp)
      have hl0 : GMapC w0 H l c := HL.out.keep (hR0.bl.block H hHr)
      have hH2 : H ≠ w.heap.size := by omega
      obtain ⟨w1, hw1⟩ : ∃ w1, setObjW w0 w.heap.size (.mapIter (some H) c (seen.push p.2) c) = w1 := ⟨_, rfl⟩
      have hit1 : w1.heap[w.heap.size]? = some (.mapIter (some H) c (seen.push p.2) c) := by rw [← hw1]; exact setObjW_same hR0.it
      have hl1 : GMapC w1 H l c := by rw [← hw1]; exact hl0.keep (setObjW_other _ _ _ _ hH2)
      have hb1 : Below w.heap.size w w1 := by
        rw [← hw1]
        exact hR0.bl.trans ⟨rfl, rfl, rfl, by rw [setObjW_size]; exact Nat.le_refl _, fun k hk => setObjW_other _ _ _ _ (by omega)⟩
      have hen := gmap_entry (P := Try.prog) hl1 hp hit1
      rw [hw1, hk] at hnx
      rw [hk] at hen
      change ∀ ty, (Instr.next (.pointer (some ⟨w.heap.size, 0, none⟩)) false ty).run Try.prog wr = .ok (.tuple #[.bool true, .int .u64 p.1.1, .int .i64 k]) w1 at hnx
      change (Instr.entry (.pointer (some ⟨w.heap.size, 0, none⟩))).run Try.prog w1 = .ok (.tuple #[.int .u64 p.1.1, .int .i64 k]) w1 at hen
      have hok1 : (p.1.1 = o ∨ tog k m = true) → ∀ x ∈ l, (seen.push p.2).contains x.2 = true → x.1.1 = o ∨ ∃ k, x.1.2 = .int .i64 k ∧ tog k m = true := by
        intro hyes x hx hsx
        by_cases e : x.2 = p.2
        · have : x = p := nodup_inj2 HL.out.2.1 hx hp e
          subst this
          rcases hyes with h | h
          · exact .inl h
          · exact .inr ⟨k, hk, h⟩
        · refine hR0.ok x hx ?_
          simp at hsx ⊢
          rcases hsx with h | h
          · exact h
          · exact absurd h e
      have hlt : ∀ wz : World, wz.heap[w.heap.size]? = some (.mapIter (some H) c (seen.push p.2) c) → gunseen l w.heap.size wz < gunseen l w.heap.size wr := by
        intro wz hz
        rw [hu0]
        unfold gunseen
        rw [hz]
        refine filter_lt' _ _ l (fun x _ hx => ?_) ⟨p, hp, by simpa using hns, by simp⟩
        simp at hx ⊢
        exact hx.1
      have HB1 := Lib.hid hb1
      have HIT := Lib.hid hit1
      have HLT := Lib.hid hlt
      have HOK := Lib.hid hok1
      have HT := Lib.hid (together_any w1 k m)
      have HMEM : Hid (p.1 ∈ hs) := by show p.1 ∈ hs; rw [← HE.out]; exact List.mem_map_of_mem hp
      have HK := Lib.hid hk
      clear hb1 hit1 hlt hok1 hl1 hl0 hH2 hw1 hR0 hw0 hR hlr hrun hu0 hHr hns hp hk
      obtain ⟨x, hx⟩ : ∃ x, p.1.1 = x := ⟨_, rfl⟩
      rw [hx] at hnx hen HOK
      by_cases hxo : x = o
      · have hxo' : (x == o) = true := by simp [hxo]
        go_wp2
        go_roundw
        case rel => exact ⟨_, HIT.out, HB1.out, HOK.out (.inl hxo)⟩
        case measure => exact HLT.out _ HIT.out
      · cases htg : tog k m with
        | true =>
          go_wp2_with fail
          refine HT.out.mono ?_
          rintro e w2 ⟨rfl, hb2⟩
          rw [htg]
          go_wp2
          go_roundw
          case rel => exact ⟨_, (hb2.block _ (Array.getElem?_eq_some_iff.1 HIT.out).1).trans HIT.out, HB1.out.trans (hb2.mono HB1.out.size), HOK.out (.inr htg)⟩
          case measure => exact HLT.out _ ((hb2.block _ (Array.getElem?_eq_some_iff.1 HIT.out).1).trans HIT.out)
        | false =>
          go_wp2_with fail
          refine HT.out.mono ?_
          rintro e w2 ⟨rfl, hb2⟩
          rw [htg]
          go_wp2
          go_ret
          refine ⟨?_, HB1.out.trans (hb2.mono HB1.out.size)⟩
          have hg : goesP hs o m = false := by
            unfold goesP
            rw [List.all_eq_false]
            refine ⟨p.1, HMEM.out, ?_⟩
            rw [HK.out, hx]
            simp [hxo, htg]
          rw [hg]
          rfl
end Mun
