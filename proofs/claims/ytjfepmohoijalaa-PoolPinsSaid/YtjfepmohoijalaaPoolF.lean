/- Contracts of a pool: Unpin, Frames. -/
import Derived.Test.YtjfepmohoijalaaPoolE
set_option maxRecDepth 100000
set_option linter.unusedVariables false
set_option linter.unusedSimpArgs false
namespace Mun
open Go Go.RowKit
open Go.Proofs

/-- one frame turned, its page as it was -/
theorem PRep.setF {w w' : World} {Pb D L : Nat} {F : Foot} {p : PM} {v : PLV} (h : PRep w Pb D L F p v) (hF : ∀ k, pfoot Pb v k → F k) {i : Nat} {x y : FV} (hx : v.fs[i]? = some x) (hpg : y.1.pg = x.1.pg)
    (hrd : RdB F w' y.2 y.1.b) (ho : ∀ k, k ≠ v.G → w'.heap[k]? = w.heap[k]?) (hG : w'.heap[v.G]? = some (.cells (fcells (v.fs.set i y)).toArray 58 (0, 0))) :
    PRep w' Pb D L F { p with fr := (v.fs.set i y).map (·.1) } { v with fs := v.fs.set i y } := by
  have hb : w'.heap[Pb]? = some (.cells (pcells D L { v with fs := v.fs.set i y, es := v.es } p.hand) 53 (0, 0)) := by
    rw [ho _ h.neG]
    refine h.blk.trans ?_
    simp [pcells]
  refine h.upd (fun k _ hk => ho k (fun e => hk (hF k (.inr (.inl e))))) (v.fs.set i y) v.es p.hand hb hG (by simp) (fun z hz => ?_) (h.mp.keep (ho _ (Ne.symm h.neGMw))) (h.mok.frames fun j => ?_) (ho _ (Ne.symm h.neGMd)) h.hand
  · rcases List.mem_or_eq_of_mem_set hz with h1 | h1
    · exact .inl h1
    · subst h1; exact .inr hrd
  · rw [List.getElem?_set]
    by_cases hij : i = j
    · subst hij
      have hl := (List.getElem?_eq_some_iff.1 hx).1
      simp [hl, hx, hpg]
      rw [List.getElem?_eq_getElem hl] at hx
      injection hx with hx
      rw [hx]
    · simp [hij]

theorem unpin_yes (w : World) (Pb D L : Nat) (F : Foot) (p : PM) (v : PLV) (h : PRep w Pb D L F p v) (hF : ∀ k, pfoot Pb v k → F k) (n : Int) (i : Nat) (x : FV) (hx : v.fs[i]? = some x) (hp : x.1.pg = n) (h0 : 0 ≤ n) (hpin : 0 < x.1.pins) (hsm : x.1.pins < 4611686018427387904) :
    Calls Try.prog 8 #[.pointer (some ⟨Pb, 0, none⟩), .int .i64 n] w fun e w' => e = .returned (.int .i64 0) ∧
      PRep w' Pb D L F { p with fr := (v.fs.set i ({ x.1 with pins := x.1.pins - 1 }, x.2)).map (·.1) } { v with fs := v.fs.set i ({ x.1 with pins := x.1.pins - 1 }, x.2) } ∧ Chg (pfoot Pb v) (pfoot Pb v) w w' := by
  have hh := held_yes w Pb D L F p v h n i x hx hp h0 hpin
  obtain ⟨k0, k1, k2, k3, k4⟩ := fc5 h.fbl hx
  have z2 : w.frozen? ⟨v.G, i * 5 + 2, none⟩ = false := h.ffree _
  have HX := Lib.hid (And.intro h (And.intro hF (And.intro hx hpin)))
  obtain ⟨pn, hpn⟩ : ∃ pn, x.1.pins = pn := ⟨_, rfl⟩
  rw [hpn] at k2 hsm
  have HPN := Lib.hid hpn
  have q1 : -9223372036854775808 ≤ (pn : Int) - 1 := by omega
  have q2 : (pn : Int) - 1 ≤ 9223372036854775807 := by omega
  obtain ⟨w7, hw7⟩ : ∃ w7, w.setCell ⟨v.G, i * 5 + 2, none⟩ (.int .i64 ((pn : Int) - 1)) = w7 := ⟨_, rfl⟩
  clear h hF hx hp h0 hpin k0 k1 k3 k4 hpn hsm
  go_enter Try.func8, Try.ntmps8
  go_wp2_with fail
  refine hh.mono ?_
  rintro e w' ⟨rfl, rfl⟩
  go_wp2
  go_ret
  obtain ⟨h, hF, hx, hpin⟩ := HX.out
  have ho7 : ∀ k, k ≠ v.G → w7.heap[k]? = w.heap[k]? := fun k hk => by rw [← hw7]; exact setCell_heap w ⟨v.G, i * 5 + 2, none⟩ _ k hk
  have hg7 : Chg (pfoot Pb v) (pfoot Pb v) w w7 := by rw [← hw7]; exact chg_setCell w ⟨v.G, i * 5 + 2, none⟩ _ (.inr (.inl rfl))
  have hc : ((x.1.pins - 1 : Nat) : Int) = (pn : Int) - 1 := by have := HPN.out; omega
  have hG7 : w7.heap[v.G]? = some (.cells (fcells (v.fs.set i ({ x.1 with pins := x.1.pins - 1 }, x.2))).toArray 58 (0, 0)) := by
    rw [← hw7]
    refine (setCell_blk h.fbl _).trans ?_
    rw [Nat.mul_comm i 5, fcells_set1 v.fs i 2 x ({ x.1 with pins := x.1.pins - 1 }, x.2) (.int .i64 ((pn : Int) - 1)) hx (by omega) (by rw [← hc]; rfl)]
  exact ⟨rfl, h.setF hF hx rfl (RdV.keep (h.rd x (List.mem_of_getElem? hx)) (fun k _ hk => ho7 k (fun e => hk (hF k (.inr (.inl e))))) (fun _ _ h => h)) ho7 hG7, hg7⟩

def pgsOf (v : PLV) : List Int := v.fs.map fun x => x.1.pg

def FramesOut (w : World) (v : PLV) (e : Ending) (w' : World) : Prop :=
  ∃ g c, e = .returned (.slice (some ⟨g, 0, none⟩) v.fs.length c) ∧ w'.ownsRow w.heap.size 3 1 (.slice (some ⟨g, 0, none⟩) v.fs.length c) v.fs.length (zv (pgsOf v)) ∧ Below w.heap.size w w'

theorem frames_any (w : World) (Pb D L : Nat) (F : Foot) (p : PM) (v : PLV) (h : PRep w Pb D L F p v) : Calls Try.prog 9 #[.pointer (some ⟨Pb, 0, none⟩)] w (FramesOut w v) := by
  obtain ⟨n, hn⟩ : ∃ n, v.fs.length = n := ⟨_, rfl⟩
  have c2 : w.cell? ⟨Pb, 2, none⟩ = some (.slice (some ⟨v.G, 0, none⟩) n n) := by rw [h.cell 2]; simp [pcells, hn]
  have hbig : n ≤ 1024 := by rw [← hn]; exact h.big
  have hmk := make_z n (by omega) w
  obtain ⟨w1, hw1⟩ : ∃ w1, w.alloc (.cells (madeCells #[Value.int .i64 0] n) 3) = w1 := ⟨_, rfl⟩
  have hb1 : Below w.heap.size w w1 := by rw [← hw1]; exact (Below.refl _ _).alloc (Nat.le_refl _) _
  have own1 : w1.ownsRow w.heap.size 3 1 (.slice (some ⟨w.heap.size, 0, none⟩) 0 n) 0 (zv ((pgsOf v).take 0)) := by
    refine ⟨by simp [zv], .inr ⟨w.heap.size, n, madeCells #[Value.int .i64 0] n, rfl, Nat.le_refl _, by rw [← hw1]; exact heap_alloc_new w _, Nat.zero_le _, by unfold maxLen; omega, by rw [size_madeCells]; omega, by simp [zv]⟩⟩
  have c2' : w1.cell? ⟨Pb, 2, none⟩ = some (.slice (some ⟨v.G, 0, none⟩) n n) := (World.cell?_of_block (hb1.block Pb (h.lt Pb (.inl rfl)))).trans c2
  have HX := Lib.hid (And.intro h (And.intro hn hbig))
  have H1 := Lib.hid (And.intro hb1 own1)
  have hn0 : (0 : Int) ≤ (n : Int) := by omega
  clear h hb1 own1 hbig
  unfold FramesOut
  rw [hn]
  clear hn
  go_enter Try.func9, Try.ntmps9
  go_wp2
  clear hmk hw1 c2 c2'
  go_loopw [3, 5, 17] (fun o _ j wr => ∃ (k : Nat) (g c : Nat), k ≤ n ∧ j = .int .i64 (k : Int) ∧ o = .slice (some ⟨g, 0, none⟩) k c ∧ wr.ownsRow w.heap.size 3 1 (.slice (some ⟨g, 0, none⟩) k c) k (zv ((pgsOf v).take k)) ∧ Below w.heap.size w wr) (fun _ _ j _ => n - (intOf j).toNat)
  case atStart => exact ⟨0, w.heap.size, n, by omega, rfl, rfl, H1.out.2, H1.out.1⟩
  case round =>
    obtain ⟨k, g, c, hk, rfl, rfl, hown, hbr⟩ := hrel
    rcases Nat.lt_or_eq_of_le hk with hlt | rfl
    · obtain ⟨x, hx⟩ : ∃ x, v.fs[k]? = some x := ⟨_, List.getElem?_eq_getElem (by rw [HX.out.2.1]; exact hlt)⟩
      have hGr : wr.heap[v.G]? = some (.cells (fcells v.fs).toArray 58 (0, 0)) := (hbr.block v.G (HX.out.1.lt _ (.inr (.inl rfl)))).trans HX.out.1.fbl
      obtain ⟨k0, k1, k2, k3, k4⟩ := fc5 hGr hx
      obtain ⟨f1, f3, f4, f6, e1, e3, e4, e5⟩ : ∃ a c d e, x.1.pg = a ∧ x.1.pins = c ∧ x.1.touch = d ∧ x.1.chg = e := ⟨_, _, _, _, rfl, rfl, rfl, rfl⟩
      obtain ⟨sa, sn, sc, e2, -⟩ := (HX.out.1.rd x (List.mem_of_getElem? hx)).formN
      rw [e1] at k0
      rw [e2] at k1
      rw [e3] at k2
      rw [e4] at k3
      rw [e5] at k4
      have q1 : (k : Int) < (n : Int) := by omega
      have q0 : (0 : Int) ≤ (k : Int) := by omega
      obtain ⟨w2, hw2⟩ : ∃ w2, wr.alloc (.cells #[.int .i64 f1, .slice sa sn sc, .int .i64 (f3 : Int), .bool f4, .bool f6] 58) = w2 := ⟨_, rfl⟩
      have hown2 : w2.ownsRow w.heap.size 3 1 (.slice (some ⟨g, 0, none⟩) k c) k (zv ((pgsOf v).take k)) := by rw [← hw2]; exact World.ownsRow.alloc hown _
      have hb2 : Below w.heap.size w w2 := by rw [← hw2]; exact hbr.alloc hbr.size _
      have cn : w2.cell? ⟨wr.heap.size, 0, none⟩ = some (.int .i64 f1) := by
        have h9 : w2.heap[wr.heap.size]? = some (.cells #[.int .i64 f1, .slice sa sn sc, .int .i64 (f3 : Int), .bool f4, .bool f6] 58 (0, 0)) := by rw [← hw2]; exact heap_alloc_new wr _
        exact cell_of_row w2 _ 0 _ _ _ h9
      obtain ⟨R, cp, w9, hr9, ho9, hg9, hor9, -⟩ := push_z (w := w2) (ty := 22) f1 hown2 hb2.size (by have := HX.out.2.2; omega)
      have h9 : Hid (w9.ownsRow w.heap.size 3 1 (.slice (some ⟨R, 0, none⟩) (k + 1) cp) (k + 1) (zv ((pgsOf v).take (k + 1))) ∧ Below w.heap.size w w9) := by
        refine ⟨?_, (hb2.alloc hb2.size _).grown hg9 (by have := hb2.size; simp; omega) (fun k hk => (hown2.lt k hk).1)⟩
        have ht : (pgsOf v).take (k + 1) = (pgsOf v).take k ++ [f1] := by
          rw [List.take_add_one]
          congr 1
          unfold pgsOf
          rw [List.getElem?_map, hx, ← e1]
          rfl
        rw [ht]
        exact ho9
      have HR9 := Lib.hid hr9
      have HJ := Lib.hid hlt
      have HWJ : Hid (wrap64 ((k : Int) + 1) = (k : Int) + 1) := by show _ = _; have h9 := HX.out.2.2; unfold wrap64; omega
      clear hx hGr e1 e2 e3 e4 e5 hown hown2 hbr hb2 hr9 ho9 hg9 hor9 hlt hk
      go_wp2_with (first | (at_builtin; refine wpList_append_eq rfl rfl HR9.out rfl rfl ?_) | rw [hw2])
      go_roundw
      case rel => exact ⟨k + 1, _, _, by have := HJ.out; omega, by rw [HWJ.out]; rfl, rfl, h9.out.1, h9.out.2⟩
      case measure => have := HJ.out; rw [HWJ.out]; simp [intOf]; omega
    · have hfin : Hid (wr.ownsRow w.heap.size 3 1 (.slice (some ⟨g, 0, none⟩) k c) k (zv (pgsOf v)) ∧ Below w.heap.size w wr) := by
        rw [List.take_of_length_le (by unfold pgsOf; rw [List.length_map, HX.out.2.1]; exact Nat.le_refl _)] at hown
        exact ⟨hown, hbr⟩
      clear hown hbr hk
      go_wp2
      go_ret
      exact ⟨g, c, rfl, hfin.out.1, hfin.out.2⟩
end Mun
