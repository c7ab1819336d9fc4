/- The reference's hold, without. -/
import Derived.Test.YtbdkhegfmnladaaRfE
set_option maxRecDepth 100000
set_option linter.unusedVariables false
set_option linter.unusedSimpArgs false
namespace Mun
open Go Go.RowKit
open Go.Proofs

theorem infoLk2 : (Try.prog.info? 98).map (·.size) = some 3 := by kernel_rfl
theorem infoGr2 : (Try.prog.info? 103).map (·.size) = some 2 := by kernel_rfl
theorem info_gC : (Try.prog.info? 103).map (fun i => (i.zero, i.size, i.bytes)) = some (some (.agg #[.int .u64 0, .int .i64 0]), 2, 16) := by kernel_rfl
theorem info_lx : (Try.prog.info? 98).map (fun i => (i.zero, i.size, i.bytes)) = some (some (.agg #[.string ⟨#[]⟩, .slice none 0 0, .slice none 0 0]), 3, 64) := by kernel_rfl

section
variable {e t ty : TypeId} {z : Value} {size bytes : Nat} {F : Foot} {w : World} {B n m : Nat} {v s : Value} {xs ys : List Value}
theorem app_rw (hinfo : (Try.prog.info? e).map (fun i => (i.zero, i.size, i.bytes)) = some (some z, size, bytes)) (ht : Try.prog.underlying t = some (.slice e)) (hz : z.cells.size = size) (hpos : 0 < bytes) (hsz : 0 < size)
    (h : w.ownsRow B e size v n xs) (hs : RdV F w size s m ys) (h1 : ∀ u ∈ ys, u.oneCell' = true) (hB : B ≤ w.heap.size) (hl : (n + m) * bytes ≤ 140737488355328) :
    ∃ a c w', (Builtin.append_ #[t, t] ty #[v, s]).run Try.prog w = .ok (.slice a (n + m) c) w' ∧ w'.ownsRow B e size (.slice a (n + m) c) (n + m) (xs ++ ys) ∧ w.grownBy w' v.ownBlock ∧ (∀ k, (Value.slice a (n + m) c).ownBlock = some k → v.ownBlock = some k ∨ w.heap.size ≤ k) := by
  obtain ⟨i, hi, hzz, e1, e2⟩ := info_of hinfo
  obtain ⟨v', w', hr, ho, hg, hob, hnil⟩ := run_append_rd (P := Try.prog) (base := B) (ty := ty) ht hi hzz e1 e2 hz hsz h hs h1 hl hpos hB
  have hf : ∃ a c, v' = .slice a (n + m) c := by
    rcases ho.2 with ⟨e1, e2⟩ | ⟨g, cap, cur, e1, -⟩
    · exact ⟨none, 0, by rw [e1, e2]⟩
    · exact ⟨_, _, e1⟩
  obtain ⟨a, c, rfl⟩ := hf
  refine ⟨a, c, w', hr, ho, hg, fun k hk => ?_⟩
  rcases hob with e9 | e9
  · exact .inl (e9 ▸ hk)
  · rw [e9] at hk
    injection hk with hk
    exact .inr (by omega)
theorem push_rw (hinfo : (Try.prog.info? e).map (fun i => (i.zero, i.size, i.bytes)) = some (some z, size, bytes)) (ht : Try.prog.underlying t = some (.slice e)) (hz : z.cells.size = size) (hpos : 0 < bytes) (hsz : 0 < size)
    (h : w.ownsRow B e size v n xs) (cs : Array Value) (hcs : cs.size = size) (h1 : ∀ u ∈ cs.toList, u.oneCell' = true) (hB : B ≤ w.heap.size) (hl : (n + 1) * bytes ≤ 140737488355328) :
    ∃ R c w', (Builtin.append_ #[t, t] ty #[v, .slice (some ⟨w.heap.size, 0, none⟩) 1 1]).run Try.prog (w.alloc (.cells cs e)) = .ok (.slice (some ⟨R, 0, none⟩) (n + 1) c) w' ∧ w'.ownsRow B e size (.slice (some ⟨R, 0, none⟩) (n + 1) c) (n + 1) (xs ++ cs.toList) ∧ w.grownBy w' v.ownBlock ∧ (v.ownBlock = some R ∨ w.heap.size ≤ R) := by
  have hlc : cs.toList.length = 1 * size := by rw [Array.length_toList, hcs, Nat.one_mul]
  have hsrc : RdV (fun _ => False) (w.alloc (.cells cs e)) size (.slice (some ⟨w.heap.size, 0, none⟩) 1 1) 1 cs.toList :=
    ⟨hlc, _, _, rfl, Nat.le_refl _, by unfold maxLen; omega, by simp, fun _ => ⟨w.heap.size, 0, _, _, (0, 0), rfl, fun h => h, heap_alloc_new w _, by
      rw [List.drop_zero, Nat.one_mul, List.take_of_length_le (by rw [Array.length_toList, hcs]; exact Nat.le_refl _)]⟩⟩
  obtain ⟨a, c, w', hr, ho, hg, hob⟩ := app_rw (ty := ty) hinfo ht hz hpos hsz (World.ownsRow.alloc h _) hsrc h1 (by rw [World.size_alloc]; omega) hl
  rcases ho.2 with ⟨e9, h0⟩ | ⟨R, cp, cur, e9, hb, hR, hrest⟩
  · omega
  · injection e9 with e1 e2 e3
    subst e1 e3
    refine ⟨R, c, w', hr, ho, ?_, ?_⟩
    · obtain ⟨g1, g2, g3, g4, g5⟩ := hg
      exact ⟨g1, g2, g3, by rw [World.size_alloc] at g4; omega, fun k hk hne => by rw [g5 k (by rw [World.size_alloc]; omega) hne, heap_alloc_old _ _ hk]⟩
    · rcases hob R rfl with h9 | h9
      · exact .inl h9
      · rw [World.size_alloc] at h9; exact .inr (by omega)
end
section
variable {w w' w'' : World} {b : Option Nat}
theorem grown_refl (w : World) (b : Option Nat) : w.grownBy w b := ⟨rfl, rfl, rfl, Nat.le_refl _, fun _ _ _ => rfl⟩
theorem grown_trans (h : w.grownBy w' b) (k : w'.grownBy w'' b) : w.grownBy w'' b :=
  ⟨k.os.trans h.os, k.tape.trans h.tape, k.output.trans h.output, Nat.le_trans h.size k.size, fun i hi hn => (k.block i (Nat.lt_of_lt_of_le hi h.size) hn).trans (h.block i hi hn)⟩
theorem grown_of_below (h : Below w.heap.size w w') (b : Option Nat) : w.grownBy w' b := ⟨h.os, h.tape, h.output, h.size, fun k hk _ => h.block k hk⟩
theorem below_grown {W0 : World} (h : Below W0.heap.size W0 w) (k : w.grownBy w' b) (hb : ∀ i, b = some i → W0.heap.size ≤ i) : Below W0.heap.size W0 w' :=
  ⟨k.os.trans h.os, k.tape.trans h.tape, k.output.trans h.output, Nat.le_trans h.size k.size, fun i hi => (k.block i (Nat.lt_of_lt_of_le hi h.size) (fun e => by have := hb i e.symm; omega)).trans (h.block i hi)⟩
end
/-- a box of the call's own turned beside -/
theorem grown_box {w wb w5 : World} {b : Option Nat} (h : Below w.heap.size w wb) (k : wb.grownBy w5 b) (g : Nat) (hg : w.heap.size ≤ g) (cs : Array Value) : w.grownBy (w5.setRow g cs) b :=
  ⟨k.os.trans h.os, k.tape.trans h.tape, k.output.trans h.output, by rw [setRow_size]; exact Nat.le_trans h.size k.size, fun i hi hn => (setRow_otherL w5 g cs i (by omega)).trans ((k.block i (Nat.lt_of_lt_of_le hi h.size) hn).trans (h.block i hi))⟩
theorem gC_set : ∀ {l : List (Int × Int)} {i : Nat} {o m k : Int}, l[i]? = some (o, k) → (gC l).set (i * 2 + 1) (.int .i64 m) = gC (l.set i (o, m))
  | [], i, o, m, k, h => by simp at h
  | a :: l, 0, o, m, k, h => by
    simp at h
    subst h
    simp [gC]
  | a :: l, i + 1, o, m, k, h => by
    have ih := gC_set (m := m) (by simpa using h : l[i]? = some (o, k))
    have e1 : gC (a :: l) = .int .u64 a.1 :: .int .i64 a.2 :: gC l := rfl
    have e2 : gC ((a :: l).set (i + 1) (o, m)) = .int .u64 a.1 :: .int .i64 a.2 :: gC (l.set i (o, m)) := rfl
    rw [e1, e2, ← ih, show (i + 1) * 2 + 1 = (i * 2 + 1) + 1 + 1 by omega]
    rfl
theorem kset_at : ∀ {l : List (Int × Int)} {i : Nat} {o m k : Int}, l[i]? = some (o, k) → (∀ a ∈ l.take i, a.1 ≠ o) → kset l o m = l.set i (o, m)
  | [], i, o, m, k, h, _ => by simp at h
  | a :: l, 0, o, m, k, h, _ => by
    simp at h
    subst h
    simp [kset]
  | a :: l, i + 1, o, m, k, h, hn => by
    have ih := kset_at (m := m) (by simpa using h : l[i]? = some (o, k)) (fun b hb => hn b (by simp [hb]))
    have h0 : a.1 ≠ o := hn a (by simp)
    simp only [kset, if_neg h0, ih, List.set_cons_succ]
theorem kset_no : ∀ {l : List (Int × Int)} {o m : Int}, (∀ a ∈ l, a.1 ≠ o) → kset l o m = l ++ [(o, m)]
  | [], o, m, _ => rfl
  | a :: l, o, m, hn => by
    have ih := kset_no (l := l) (o := o) (m := m) (fun b hb => hn b (List.mem_cons_of_mem _ hb))
    simp only [kset, if_neg (hn a (by simp)), List.cons_append, ih]

def HoPost (w : World) (B : Nat) (nm : ByteArray) (hv qv : Value) (hs' : List (Int × Int)) (e : Ending) (w' : World) : Prop :=
  ∃ a c, e = .returned (.agg #[.string nm, .slice a hs'.length c, qv]) ∧ w'.ownsRow B 103 2 (.slice a hs'.length c) hs'.length (gC hs') ∧ w.grownBy w' hv.ownBlock ∧ (∀ k, (Value.slice a hs'.length c).ownBlock = some k → hv.ownBlock = some k ∨ w.heap.size ≤ k)

set_option maxHeartbeats 2000000 in
theorem r14_hold {B : Nat} (w : World) (nm : ByteArray) (ha : Option Addr) (hc : Nat) (qa : Option Addr) (qn qc n : Nat) (hs : List (Int × Int)) (hn : hs.length = n) (h : w.ownsRow B 103 2 (.slice ha n hc) n (gC hs)) (hB : B ≤ w.heap.size) (hl : n ≤ 1048576) (o m : Int) :
    Calls Try.prog 45 #[.agg #[.string nm, .slice ha n hc, .slice qa qn qc], .int .u64 o, .int .i64 m] w (HoPost w B nm (.slice ha n hc) (.slice qa qn qc) (kset hs o m)) := by
  obtain ⟨wb, hwb⟩ : ∃ wb, (w.alloc (.cells #[.string nm, .slice ha n hc, .slice qa qn qc] 98)).alloc (.cells #[.string ⟨#[]⟩, .slice none 0 0, .slice none 0 0] 98) = wb := ⟨_, rfl⟩
  have hs1 : (w.alloc (.cells #[.string nm, .slice ha n hc, .slice qa qn qc] 98)).heap.size = w.heap.size + 1 := World.size_alloc _ _
  have k0 : wb.heap[w.heap.size]? = some (.cells #[.string nm, .slice ha n hc, .slice qa qn qc] 98 (0, 0)) := by
    rw [← hwb, heap_alloc_old _ _ (by rw [hs1]; omega)]; exact heap_alloc_new w _
  have k1 : wb.heap[w.heap.size + 1]? = some (.cells #[.string ⟨#[]⟩, .slice none 0 0, .slice none 0 0] 98 (0, 0)) := by
    rw [← hwb]; exact heap_alloc2_new w _ _
  have hbb : Below w.heap.size w wb := by rw [← hwb]; exact below_more (below_more (Below.refl _ _) _) _
  have hown : wb.ownsRow B 103 2 (.slice ha n hc) n (gC hs) := by rw [← hwb]; exact World.ownsRow.alloc (World.ownsRow.alloc h _) _
  have hsz : wb.heap.size = w.heap.size + 1 + 1 := by rw [← hwb, World.size_alloc, hs1]
  have hga : GAt NoF wb (.slice ha n hc) hs := by
    have h9 := GAt.of_own (F := NoF) (l := hs) (by rw [hn]; exact hown) (fun _ _ => noF _)
    exact h9
  have hlt := h.lt
  have HX := Lib.hid (And.intro hga (And.intro hn (And.intro hl (And.intro hown (And.intro hbb (And.intro hsz hlt))))))
  have HK := Lib.hid (And.intro k0 (And.intro k1 hB))
  have z1 : wb.cell? ⟨w.heap.size, 1, none⟩ = some (.slice ha n hc) := cell_of_row wb w.heap.size 1 _ _ _ k0
  have f1 : wb.frozen? ⟨w.heap.size, 1, none⟩ = false := by simp [World.frozen?, k0]
  clear h hn hB hl k0 k1 hbb hown hga hs1 hlt
  go_enter Try.func45, Try.ntmps45
  go_wp2_with fail
  go_loopw [7] (fun iv wr => wr = wb ∧ ∃ i : Nat, iv = .int .i64 i ∧ i ≤ n ∧ ∀ a ∈ hs.take i, a.1 ≠ o) (fun iv _ => n - (Go.RowKit.intOf iv).toNat)
  case atStart => exact ⟨by first | rfl | rw [hwb], 0, rfl, Nat.zero_le _, by simp⟩
  case round =>
    obtain ⟨rfl, i, rfl, hin, hk⟩ := hrel
    by_cases hlt : i < n
    · have hil : i < hs.length := by rw [HX.out.2.1]; exact hlt
      obtain ⟨g, off, rfl, hco⟩ := HX.out.1.at_ HX.out.2.1 i hil
      obtain ⟨c0, c1⟩ := hco wr (Below.refl _ _)
      have hat : hs[i]? = some hs[i] := List.getElem?_eq_getElem hil
      have hnx : hs[i].1 ≠ o → ∀ x ∈ hs.take (i + 1), x.1 ≠ o := fun hne x hx => by
        rw [List.take_add_one, hat, Option.toList_some] at hx
        rcases List.mem_append.1 hx with h9 | h9
        · exact hk x h9
        · simp at h9; rw [h9]; exact hne
      obtain ⟨p, hp⟩ : ∃ p, hs[i] = p := ⟨_, rfl⟩
      rw [hp] at c0 c1 hat hnx
      obtain ⟨u, mm⟩ := p
      simp only at c0 c1 hnx
      have hii : (i : Int) < (n : Int) := by omega
      have hi0 : (0 : Int) ≤ (i : Int) := by omega
      have HWJ : Hid (wrap64 ((i : Int) + 1) = ((i + 1 : Nat) : Int)) := by show _ = _; have := HX.out.2.2.1; unfold wrap64; omega
      have HN := Lib.hid (And.intro hat (And.intro hk (And.intro hlt hnx)))
      by_cases he : u = o
      · have hbe : (u == o) = true := by simp [he]
        rcases HX.out.2.2.2.1.2 with ⟨e9, -⟩ | ⟨g', cap', cur, e9, hBg, hgh, -⟩
        · cases e9
        · injection e9 with e1 e2 e3
          injection e1 with e1
          injection e1 with e1 e4 _
          subst e1 e3 e4
          have hst := HX.out.2.2.2.1.stored (i * 2 + 1) (.int .i64 m)
          rw [gC_set hat] at hst
          rw [he] at hat
          have hks := kset_at (m := m) hat hk
          rw [he, ← hks] at hst
          have hklen : (kset hs o m).length = n := by rw [hks, List.length_set, HX.out.2.1]
          rw [Nat.zero_add] at c0 c1
          have fz : wr.frozen? ⟨g, i * 2 + 1, none⟩ = false := by simp [World.frozen?, hgh]
          have hglt : g < w.heap.size := (HX.out.2.2.2.2.2.2 g rfl).2
          obtain ⟨w5, hw5⟩ : ∃ w5, wr.setCell ⟨g, i * 2 + 1, none⟩ (.int .i64 m) = w5 := ⟨_, rfl⟩
          rw [hw5] at hst
          have k05 := (show w5.heap[w.heap.size]? = wr.heap[w.heap.size]? from by rw [← hw5, setCell_heapL _ _ _ _ (by show w.heap.size ≠ g; omega)]).trans HK.out.1
          have k15 := (show w5.heap[w.heap.size + 1]? = wr.heap[w.heap.size + 1]? from by rw [← hw5, setCell_heapL _ _ _ _ (by show w.heap.size + 1 ≠ g; omega)]).trans HK.out.2.1
          have z5 : Hid (w5.heap.size = wr.heap.size ∧ g < w.heap.size) := ⟨by rw [← hw5, setCell_sizeL], hglt⟩
          have HS := Lib.hid (And.intro hst hklen)
          have HK5 := Lib.hid (And.intro k05 k15)
          clear hat hnx hk hlt hst hks hklen hin hil hco hgh hBg hglt k05 k15 hp
          obtain ⟨w6, hw6⟩ : ∃ w6, w5.setRow (w.heap.size + 1) #[.string nm, .slice (some ⟨g, 0, none⟩) n hc, .slice qa qn qc] = w6 := ⟨_, rfl⟩
          have k6 : Hid (w6.heap[w.heap.size + 1]? = some (.cells #[.string nm, .slice (some ⟨g, 0, none⟩) n hc, .slice qa qn qc] 98 (0, 0))) := by
            show _ = _
            rw [← hw6]; exact setRow_heap w5 _ _ _ _ _ HK5.out.2
          have hfin : Hid (HoPost w B nm (.slice (some ⟨g, 0, none⟩) n hc) (.slice qa qn qc) (kset hs o m) (.returned (.agg #[.string nm, .slice (some ⟨g, 0, none⟩) n hc, .slice qa qn qc])) w6) := by
            refine ⟨some ⟨g, 0, none⟩, hc, by rw [HS.out.2], ?_, ?_, fun k hk => .inl (by rw [HS.out.2] at hk; exact hk)⟩
            · rw [HS.out.2]
              refine rowU_keep HS.out.1.1 (fun k hk => ?_)
              have e : g = k := by simpa [Value.ownBlock] using hk
              rw [← hw6]
              exact setRow_otherL _ _ _ _ (by have := z5.out.2; omega)
            · rw [← hw6]; exact grown_box HX.out.2.2.2.2.1 HS.out.1.2 _ (by omega) _
          clear z1 f1 hwb
          have z1 : wr.cell? ⟨w.heap.size, 1, none⟩ = some (.slice (some ⟨g, 0, none⟩) n hc) := cell_of_row wr w.heap.size 1 _ _ _ HK.out.1
          go_wp2_with (first | (refine wpList_load_row rfl _ _ rfl w.heap.size rfl _ _ (0, 0) _ HK5.out.1 Try.underlying98 rfl infoLk2 ?_) | (refine wpList_store_row rfl _ _ _ rfl (w.heap.size + 1) _ rfl rfl _ _ HK5.out.2 infoLk2 rfl (by simp [Value.oneCell']) ?_; rw [hw6]))
          exact bodyPost_ret (results_cell_row (fn := Try.f45) (p := 6) (ty := 98) rfl _ _ (w.heap.size + 1) 98 _ (0, 0) _ rfl k6.out Try.underlying98 rfl infoLk2) rfl hfin.out
      · have hbe : (u == o) = false := by simp [he]
        clear hat hnx hk hlt hin hil hco hp c1
        go_wp2
        go_roundw
        case rel => exact ⟨by trivial, i + 1, by rw [HWJ.out], HN.out.2.2.1, HN.out.2.2.2 he⟩
        case measure => exact meas_up HWJ.out HN.out.2.2.1
    · have hii : ¬ (i : Int) < (n : Int) := by omega
      have hks : kset hs o m = hs ++ [(o, m)] := kset_no (fun a ha => hk a (by rw [List.take_of_length_le (by rw [HX.out.2.1]; omega)]; exact ha))
      obtain ⟨R, cp, w5, hr, ho5, hg5, hob5⟩ := push_rw (ty := 96) info_gC Try.underlying96 rfl (by decide) (by decide) HX.out.2.2.2.1 #[.int .u64 o, .int .i64 m] rfl (by intro u hu; simp at hu; rcases hu with rfl | rfl <;> rfl) (by have := HK.out.2.2; have := HX.out.2.2.2.2.2.1; omega) (by have := HX.out.2.2.1; omega)
      have hgc : gC hs ++ (#[Value.int .u64 o, .int .i64 m]).toList = gC (hs ++ [(o, m)]) := by simp [gC]
      rw [hgc, ← hks] at ho5
      have hklen : (kset hs o m).length = n + 1 := by rw [hks, List.length_append, HX.out.2.1]; rfl
      have k05 : w5.heap[w.heap.size]? = _ := (hg5.block _ (lt_of_block HK.out.1) (fun e => by have := (HX.out.2.2.2.2.2.2 _ e.symm).2; omega)).trans HK.out.1
      have k15 : w5.heap[w.heap.size + 1]? = _ := (hg5.block _ (lt_of_block HK.out.2.1) (fun e => by have := (HX.out.2.2.2.2.2.2 _ e.symm).2; omega)).trans HK.out.2.1
      have hRne : R ≠ w.heap.size ∧ R ≠ w.heap.size + 1 := by
        rcases hob5 with h9 | h9
        · have := (HX.out.2.2.2.2.2.2 _ h9).2; omega
        · have := HX.out.2.2.2.2.2.1; omega
      have z5 : w5.cell? ⟨w.heap.size, 1, none⟩ = some (.slice ha n hc) := cell_of_row w5 w.heap.size 1 _ _ _ k05
      have f5 : w5.frozen? ⟨w.heap.size, 1, none⟩ = false := by simp [World.frozen?, k05]
      obtain ⟨w6, hw6⟩ : ∃ w6, w5.setCell ⟨w.heap.size, 1, none⟩ (.slice (some ⟨R, 0, none⟩) (n + 1) cp) = w6 := ⟨_, rfl⟩
      have k06 : w6.heap[w.heap.size]? = some (.cells #[.string nm, .slice (some ⟨R, 0, none⟩) (n + 1) cp, .slice qa qn qc] 98 (0, 0)) := by rw [← hw6]; exact setCell_blkL k05 _
      have k16 := (show w6.heap[w.heap.size + 1]? = w5.heap[w.heap.size + 1]? from by rw [← hw6, setCell_heapL _ _ _ _ (by show w.heap.size + 1 ≠ w.heap.size; omega)]).trans k15
      obtain ⟨w7, hw7⟩ : ∃ w7, w6.setRow (w.heap.size + 1) #[.string nm, .slice (some ⟨R, 0, none⟩) (n + 1) cp, .slice qa qn qc] = w7 := ⟨_, rfl⟩
      have k7 : Hid (w7.heap[w.heap.size + 1]? = some (.cells #[.string nm, .slice (some ⟨R, 0, none⟩) (n + 1) cp, .slice qa qn qc] 98 (0, 0))) := by
        show _ = _
        rw [← hw7]; exact setRow_heap w6 _ _ _ _ _ k16
      have hfin : Hid (HoPost w B nm (.slice ha n hc) (.slice qa qn qc) (kset hs o m) (.returned (.agg #[.string nm, .slice (some ⟨R, 0, none⟩) (n + 1) cp, .slice qa qn qc])) w7) := by
        refine ⟨some ⟨R, 0, none⟩, cp, by rw [hklen], ?_, ?_, fun k hk => ?_⟩
        · rw [hklen]
          refine rowU_keep ho5 (fun k hk => ?_)
          have e : R = k := by simpa [Value.ownBlock] using hk
          rw [← hw7, setRow_otherL _ _ _ _ (by omega), ← hw6]
          exact setCell_heapL _ _ _ _ (by show k ≠ w.heap.size; omega)
        · rw [← hw7]
          have h9 : ∀ k, k < w.heap.size → w6.heap[k]? = w5.heap[k]? := fun k hk => by rw [← hw6]; exact setCell_heapL _ _ _ _ (by show k ≠ w.heap.size; omega)
          have hb := HX.out.2.2.2.2.1
          refine ⟨by rw [← hw6]; exact hg5.os.trans hb.os, by rw [← hw6]; exact hg5.tape.trans hb.tape, by rw [← hw6]; exact hg5.output.trans hb.output, by rw [setRow_size, ← hw6, setCell_sizeL]; exact Nat.le_trans hb.size hg5.size, fun k hk hne => ?_⟩
          rw [setRow_otherL _ _ _ _ (by omega), h9 k hk, hg5.block k (Nat.lt_of_lt_of_le hk hb.size) hne]
          exact hb.block k hk
        · rw [hklen] at hk
          have e : R = k := by simpa [Value.ownBlock] using hk
          subst e
          rcases hob5 with h9 | h9
          · exact .inl h9
          · exact .inr (by have := HX.out.2.2.2.2.2.1; omega)
      have HR := Lib.hid hr
      have HK6 := Lib.hid (And.intro k06 k16)
      clear hk hks hr ho5 hg5 hob5 hgc hklen k05 k15 hRne k06 k16 hlt hin hwb hsz
      go_wp2_with (first | (at_builtin; refine wpList_append_eq rfl rfl HR.out rfl rfl ?_; clear HR) | (refine wpList_load_row rfl _ _ rfl w.heap.size rfl _ _ (0, 0) _ HK6.out.1 Try.underlying98 rfl infoLk2 ?_) | (refine wpList_store_row rfl _ _ _ rfl (w.heap.size + 1) _ rfl rfl _ _ HK6.out.2 infoLk2 rfl (by simp [Value.oneCell']) ?_; rw [hw7]))
      exact bodyPost_ret (results_cell_row (fn := Try.f45) (p := 6) (ty := 98) rfl _ _ (w.heap.size + 1) 98 _ (0, 0) _ rfl k7.out Try.underlying98 rfl infoLk2) rfl hfin.out

set_option maxHeartbeats 2000000 in
theorem r14_without {F : Foot} (w : World) (la : Option Addr) (lc n : Nat) (l : List (Int × Int)) (h : GAt F w (.slice la n lc) l) (hn : l.length = n) (hl : n ≤ 1048576) (o : Int) :
    Calls Try.prog 47 #[.slice la n lc, .int .u64 o] w fun e w' => ∃ a c, e = .returned (.tuple #[.slice a (l.filter (neO o)).length c, .bool (decide (o ∈ l.map (·.1)))]) ∧ w'.ownsRow w.heap.size 103 2 (.slice a (l.filter (neO o)).length c) (l.filter (neO o)).length (gC (l.filter (neO o))) ∧ Below w.heap.size w w' := by
  have HX := Lib.hid (And.intro h (And.intro hn hl))
  clear h hn hl
  go_enter Try.func47, Try.ntmps47
  go_wp2_with fail
  go_loopw [6, 7, 8] (fun ov_ bv_ iv wr => ∃ (i : Nat) (l2 : List (Int × Int)) (b : Bool) (oa : Option Addr) (oc : Nat), iv = .int .i64 i ∧ i ≤ n ∧ l2 = (l.take i).filter (neO o) ∧ bv_ = .bool b ∧ b = decide (o ∈ (l.take i).map (·.1)) ∧ ov_ = .slice oa l2.length oc ∧ wr.ownsRow w.heap.size 103 2 (.slice oa l2.length oc) l2.length (gC l2) ∧ Below w.heap.size w wr) (fun _ _ iv _ => n - (Go.RowKit.intOf iv).toNat)
  case atStart => exact ⟨0, [], false, none, 0, rfl, Nat.zero_le _, by simp, rfl, by simp, rfl, World.ownsRow_nil _ _ _ _, Below.refl _ _⟩
  case round =>
    obtain ⟨i, l2, b, oa, oc, rfl, hin, hl2, rfl, hbe, rfl, hrow, hb⟩ := hrel
    obtain ⟨ln, hln⟩ : ∃ ln, l2.length = ln := ⟨_, rfl⟩
    rw [hln] at hrow ⊢
    by_cases hlt : i < n
    · have hil : i < l.length := by rw [HX.out.2.1]; exact hlt
      obtain ⟨g, off, rfl, hco⟩ := HX.out.1.at_ HX.out.2.1 i hil
      obtain ⟨c0, c1⟩ := hco wr hb
      have htk : (l.take (i + 1)).filter (neO o) = l2 ++ if neO o l[i] = true then [l[i]] else [] := by
        rw [hl2, List.take_add_one, List.getElem?_eq_getElem hil, Option.toList_some, List.filter_append]
        congr 1
        by_cases h : neO o l[i] = true
        · rw [if_pos h, List.filter_cons_of_pos h]; rfl
        · rw [if_neg h, List.filter_cons_of_neg h]; rfl
      have hmk : (l.take (i + 1)).map (·.1) = (l.take i).map (·.1) ++ [l[i].1] := by
        rw [List.take_add_one, List.getElem?_eq_getElem hil, Option.toList_some, List.map_append]; rfl
      have hlen : ln ≤ i := by have h9 := List.length_filter_le (neO o) (l.take i); rw [← hl2, hln, List.length_take] at h9; omega
      obtain ⟨p, hp⟩ : ∃ p, l[i] = p := ⟨_, rfl⟩
      rw [hp] at c0 c1 htk hmk
      obtain ⟨u, mm⟩ := p
      simp only at c0 c1 hmk
      have hii : (i : Int) < (n : Int) := by omega
      have hi0 : (0 : Int) ≤ (i : Int) := by omega
      have HWJ : Hid (wrap64 ((i : Int) + 1) = ((i + 1 : Nat) : Int)) := by show _ = _; have := HX.out.2.2; unfold wrap64; omega
      by_cases he : u = o
      · have hbe2 : (u == o) = true := by simp [he]
        have hn1 : ¬ neO o (u, mm) = true := by unfold neO; simp [he]
        rw [if_neg hn1, List.append_nil] at htk
        have HN : Hid (l2 = (l.take (i + 1)).filter (neO o) ∧ true = decide (o ∈ (l.take (i + 1)).map (·.1)) ∧ i < n ∧ l2.length = ln ∧ wr.ownsRow w.heap.size 103 2 (.slice oa ln oc) ln (gC l2) ∧ Below w.heap.size w wr) := ⟨htk.symm, by rw [hmk, he]; simp, hlt, hln, hrow, hb⟩
        clear htk hmk hlen hp hco hil hlt hin hl2 hln hrow hb hbe c1
        go_wp2
        go_roundw
        case rel => exact ⟨i + 1, l2, true, oa, oc, by rw [HWJ.out], HN.out.2.2.1, HN.out.1, rfl, HN.out.2.1, by rw [HN.out.2.2.2.1], by rw [HN.out.2.2.2.1]; exact HN.out.2.2.2.2.1, HN.out.2.2.2.2.2⟩
        case measure => exact meas_up HWJ.out HN.out.2.2.1
      · have hbe2 : (u == o) = false := by simp [he]
        have hn1 : neO o (u, mm) = true := by unfold neO; simp [he]
        rw [if_pos hn1] at htk
        obtain ⟨R, cp, w5, hr, ho5, hg5, hob5⟩ := push_rw (ty := 96) info_gC Try.underlying96 rfl (by decide) (by decide) hrow #[.int .u64 u, .int .i64 mm] rfl (by intro u hu; simp at hu; rcases hu with rfl | rfl <;> rfl) hb.size (by have := HX.out.2.2; omega)
        have hgc : gC l2 ++ (#[Value.int .u64 u, .int .i64 mm]).toList = gC (l2 ++ [(u, mm)]) := by simp [gC]
        rw [hgc] at ho5
        have HR := Lib.hid hr
        have HN : Hid (l2 ++ [(u, mm)] = (l.take (i + 1)).filter (neO o) ∧ b = decide (o ∈ (l.take (i + 1)).map (·.1)) ∧ i < n ∧ (l2 ++ [(u, mm)]).length = ln + 1 ∧ w5.ownsRow w.heap.size 103 2 (.slice (some ⟨R, 0, none⟩) (ln + 1) cp) (ln + 1) (gC (l2 ++ [(u, mm)])) ∧ Below w.heap.size w w5) := ⟨htk.symm, by rw [hmk, hbe]; simp [Ne.symm he], hlt, by rw [List.length_append, hln]; rfl, ho5, below_grown hb hg5 (fun k e => (hrow.lt k e).1)⟩
        clear htk hmk hlen hp hco hil hlt hin hl2 hln hrow hb hbe hr ho5 hg5 hob5 hgc
        go_wp2_with (at_builtin; refine wpList_append_eq rfl rfl HR.out rfl rfl ?_; clear HR)
        go_roundw
        case rel => exact ⟨i + 1, l2 ++ [(u, mm)], b, _, cp, by rw [HWJ.out], HN.out.2.2.1, HN.out.1, rfl, HN.out.2.1, by rw [HN.out.2.2.2.1], by rw [HN.out.2.2.2.1]; exact HN.out.2.2.2.2.1, HN.out.2.2.2.2.2⟩
        case measure => exact meas_up HWJ.out HN.out.2.2.1
    · have hii : ¬ (i : Int) < (n : Int) := by omega
      have htl : l.take i = l := List.take_of_length_le (by rw [HX.out.2.1]; omega)
      rw [htl] at hl2 hbe
      have HN : Hid (l2 = l.filter (neO o) ∧ b = decide (o ∈ l.map (·.1)) ∧ l2.length = ln ∧ wr.ownsRow w.heap.size 103 2 (.slice oa ln oc) ln (gC l2) ∧ Below w.heap.size w wr) := ⟨hl2, hbe, hln, hrow, hb⟩
      clear htl hl2 hbe hln hrow hb hlt hin
      go_wp2
      refine bodyPost_ret (by simp [results, Try.results47, go_sem]; try rfl) rfl ?_
      refine ⟨oa, oc, ?_, ?_, HN.out.2.2.2.2⟩
      · rw [← HN.out.1, HN.out.2.2.1, HN.out.2.1]
      · rw [← HN.out.1, HN.out.2.2.1]; exact HN.out.2.2.2.1
end Mun
