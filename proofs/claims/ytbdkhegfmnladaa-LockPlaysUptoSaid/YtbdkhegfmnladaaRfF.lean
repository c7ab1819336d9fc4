/- The reference's waitsFor. -/
import Derived.Test.YtbdkhegfmnladaaRfE
import Derived.Test.YtbdkhegfmnladaaRegW
import Derived.Test.YtbdkhegfmnladaaMgJ
set_option maxRecDepth 100000
set_option linter.unusedVariables false
set_option linter.unusedSimpArgs false
namespace Mun
open Go Go.RowKit
open Go.Proofs

def notP (o m : Int) (a : Int × Int) : Bool := !(a.1 == o) && !tog a.2 m
/-- whom an owner waits for -/
def wfL (X : List LX) (o : Int) : List (Int × Int) := match waitP X o with
  | none => []
  | some (s, m) => match X[idxX X s]? with
    | none => []
    | some x => x.hs.filter (notP o m) ++ ahead x.qs o
theorem waitP_some {X : List LX} {o : Int} {s : ByteArray} {m : Int} (h : waitP X o = some (s, m)) : ∃ x ∈ X, x.name = s ∧ klook x.qs o = some m := by
  induction X with
  | nil => cases h
  | cons x X ih =>
    unfold waitP at h
    cases hk : klook x.qs o with
    | some m' =>
      rw [hk] at h
      injection h with h
      injection h with h1 h2
      exact ⟨x, by simp, h1, by rw [hk, h2]⟩
    | none =>
      rw [hk] at h
      obtain ⟨y, hy, h1, h2⟩ := ih h
      exact ⟨y, by simp [hy], h1, h2⟩
theorem idxX_some {X : List LX} {s : ByteArray} {x : LX} (hx : x ∈ X) (hn : x.name = s) : idxX X s < X.length := by
  unfold idxX
  exact List.findIdx_lt_length_of_exists ⟨x, hx, by simp [hn]⟩
theorem filter_take {p : Int × Int → Bool} {l : List (Int × Int)} {i : Nat} (hi : i < l.length) : (l.take (i + 1)).filter p = (l.take i).filter p ++ if p l[i] = true then [l[i]] else [] := by
  rw [List.take_add_one, List.getElem?_eq_getElem hi, Option.toList_some, List.filter_append]
  congr 1
  by_cases h : p l[i] = true
  · rw [if_pos h, List.filter_cons_of_pos h]; rfl
  · rw [if_neg h, List.filter_cons_of_neg h]; rfl
theorem ahead_takeR {l : List (Int × Int)} {o : Int} {k : Nat} (h : ∀ a ∈ l.take k, a.1 ≠ o) (he : l.length ≤ k ∨ ∃ hk : k < l.length, l[k].1 = o) : ahead l o = l.take k := by
  have hsp := List.take_append_drop k l
  unfold ahead
  conv => lhs; rw [← hsp]
  rw [List.takeWhile_append_of_pos (fun b hb => by simpa using h b hb)]
  rcases he with he | ⟨hk, he⟩
  · rw [List.drop_of_length_le he]; simp
  · rw [List.drop_eq_getElem_cons hk, List.takeWhile_cons_of_neg (by simp [he])]; simp
theorem below_of_drew {w w' : World} (h : Below w.heap.size w w') : Below w.drew.heap.size w.drew w' := ⟨h.os, h.tape, h.output, h.size, h.block⟩
theorem infoLk : (Try.prog.info? 98).map (·.size) = some 3 := by kernel_rfl

/-- within waitsFor's loops: the lock's box; the row so far -/
structure WfR (w w7 : World) (B2 : Nat) (box : Obj) (wr : World) (v : Value) (l : List (Int × Int)) : Prop where
  bl : Below w.heap.size w wr
  bx : wr.heap[B2]? = some box
  lo : w7.heap.size ≤ wr.heap.size
  row : wr.ownsRow w7.heap.size 29 1 v l.length (ov l)
  b7 : B2 < w7.heap.size
  w7l : w.heap.size ≤ w7.heap.size
section
variable {w w7 wr w' : World} {B2 : Nat} {box : Obj} {v : Value} {l : List (Int × Int)}
theorem WfR.below (h : WfR w w7 B2 box wr v l) (hb : Below wr.heap.size wr w') : WfR w w7 B2 box w' v l :=
  ⟨h.bl.trans (hb.mono h.bl.size), (hb.block _ (lt_of_block h.bx)).trans h.bx, Nat.le_trans h.lo hb.size, rowU_keep h.row (fun k hk => hb.block k (h.row.lt k hk).2), h.b7, h.w7l⟩
theorem WfR.push (h : WfR w w7 B2 box wr v l) (a : Int × Int) (hl : l.length < 8796093022199) :
    ∃ R cp w', (Builtin.append_ #[36, 36] 36 #[v, .slice (some ⟨wr.heap.size, 0, none⟩) 1 1]).run Try.prog (wr.alloc (.cells #[.int .u64 a.1] 29)) = .ok (.slice (some ⟨R, 0, none⟩) (l.length + 1) cp) w' ∧ WfR w w7 B2 box w' (.slice (some ⟨R, 0, none⟩) (l.length + 1) cp) (l ++ [a]) := by
  obtain ⟨R, cp, w', hr, ho, y1, y2, y3, y4, y5, y6⟩ := push_g (ty := 36) info_u64L Try.underlying36 rfl (by decide) (.int .u64 a.1) rfl h.row h.lo (by omega)
  refine ⟨R, cp, w', hr, below_push h.bl h.row h.w7l y1 y2 y3 y4 y5, (y5 _ (lt_of_block h.bx) (fun e => by have := (h.row.lt _ e).1; have := h.b7; omega)).trans h.bx, Nat.le_trans h.lo y1, ?_, h.b7, h.w7l⟩
  have hov : ov l ++ [Value.int .u64 a.1] = ov (l ++ [a]) := by simp [ov]
  rw [hov] at ho
  rw [List.length_append]; exact ho
end
set_option maxHeartbeats 4000000 in
theorem r14_waitsFor {F : Foot} (w : World) (v : Value) (X : List LX) (h : TabF F w v X) (hl : X.length ≤ 8796093021999) (hh : ∀ x ∈ X, x.hs.length + x.qs.length ≤ 8796093022000) (o : Int) :
    Calls Try.prog 69 #[.agg #[v], .int .u64 o] w fun e w' => ∃ v', e = .returned v' ∧ w'.ownsRow w.heap.size 29 1 v' (wfL X o).length (ov (wfL X o)) ∧ Below w.heap.size w w' := by
  obtain ⟨ha, hc, rfl, -, -⟩ := h.row.form
  obtain ⟨n, hn⟩ : ∃ n, X.length = n := ⟨_, rfl⟩
  rw [hn] at h ⊢
  obtain ⟨wb, hwb⟩ : ∃ wb, w.alloc (.cells #[.slice ha n hc] 51) = wb := ⟨_, rfl⟩
  have hbb : Below w.heap.size w wb := by rw [← hwb]; exact (Below.refl _ _).alloc (Nat.le_refl _) _
  have kb : wb.heap[w.heap.size]? = some (.cells #[.slice ha n hc] 51 (0, 0)) := by rw [← hwb]; exact heap_alloc_new w _
  have hwt := r14_waits wb (.slice ha n hc) X (h.below hbb) hl (fun x hx => by have := hh x hx; omega) o
  have HWT := Lib.hid hwt
  have HX := Lib.hid (And.intro h (And.intro hn (And.intro hl hh)))
  have HW := Lib.hid (And.intro hbb kb)
  have z0 : wb.cell? ⟨w.heap.size, 0, none⟩ = some (.slice ha n hc) := cell_of_row wb w.heap.size 0 _ _ _ kb
  clear h hn hl hbb kb hh hwt
  go_enter Try.func69, Try.ntmps69
  go_wp2_with (first | (refine wpList_load_row rfl _ _ rfl w.heap.size rfl _ _ (0, 0) _ HW.out.2 Try.underlying51 rfl infoT ?_) | fail)
  refine HWT.out.mono ?_
  rintro e w4 ⟨rfl, hb4⟩
  clear z0 HWT
  have H4 := Lib.hid (And.intro (HW.out.1.trans (hb4.mono HW.out.1.size)) ((hb4.block _ (lt_of_block HW.out.2)).trans HW.out.2))
  clear hb4 hwb HW
  cases hwp : waitP X o with
  | none =>
    unfold waitV
    have hwf : Hid (wfL X o = []) := by show _ = _; unfold wfL; rw [hwp]
    clear hwp
    go_wp2
    go_ret
    exact ⟨_, rfl, by rw [hwf.out]; exact World.ownsRow_nil _ _ _ _, H4.out.1⟩
  | some sm =>
    obtain ⟨s, m⟩ := sm
    unfold waitV
    obtain ⟨y, hy, hyn, -⟩ := waitP_some hwp
    have hidx := idxX_some hy hyn
    obtain ⟨x, hx, hxn⟩ := idxX_lt hidx
    have hwf : wfL X o = x.hs.filter (notP o m) ++ ahead x.qs o := by unfold wfL; rw [hwp]; simp only; rw [hx]
    obtain ⟨k, hk⟩ : ∃ k, idxX X s = k := ⟨_, rfl⟩
    have hfp : findP X s = (k : Int) := by unfold findP; rw [if_pos hidx, hk]
    rw [hk] at hx hidx
    obtain ⟨hil, hxe⟩ := List.getElem?_eq_some_iff.1 hx
    obtain ⟨g, off, rfl, hco⟩ := HX.out.1.at_ HX.out.2.1 k hil
    rw [hxe] at hco
    have hxm : x ∈ X := by rw [← hxe]; exact List.getElem_mem hil
    have hgh := HX.out.1.hr x hxm
    have hgq := HX.out.1.qr x hxm
    have hlen := HX.out.2.2.2 x hxm
    obtain ⟨xs, hxs⟩ : ∃ xs, x.name = xs := ⟨_, rfl⟩
    obtain ⟨pa, pc, hpv, -, -⟩ := hgh.form
    obtain ⟨qa, qc, hqv, -, -⟩ := hgq.form
    obtain ⟨pn, hpn⟩ : ∃ pn, x.hs.length = pn := ⟨_, rfl⟩
    obtain ⟨qn, hqn⟩ : ∃ qn, x.qs.length = qn := ⟨_, rfl⟩
    rw [hpv, hpn] at hgh
    rw [hqv, hqn] at hgq
    rw [hxs, hpv, hqv, hpn, hqn] at hco
    rw [hpn, hqn] at hlen
    have hkk : (k : Int) < (n : Int) := by have := HX.out.2.1; omega
    have hk0 : (0 : Int) ≤ (k : Int) := by omega
    have hfi : ∀ W, Below w.heap.size w W → Calls Try.prog 62 #[.agg #[.slice (some ⟨g, off, none⟩) n hc], .string s] W fun e w' => e = .returned (.int .i64 (k : Int)) ∧ Below W.heap.size W w' := fun W hW => by
      have h9 := r14_find W _ X (HX.out.1.below hW) (by have := HX.out.2.2.1; omega) s
      rw [hfp] at h9
      exact h9
    have HFI := Lib.hid hfi
    have HG := Lib.hid (And.intro hco (And.intro hgh (And.intro hgq (And.intro hpn (And.intro hqn (And.intro hlen hwf))))))
    clear hfi hco hgh hgq hpn hqn hlen hwf hwp hy hyn hidx hx hxn hk hfp hil hxe hxm hxs hpv hqv
    have hb4d : Below w.heap.size w w4.drew := H4.out.1.trans ((below_drewN (Below.refl _ _) 1 : Below w4.heap.size w4 w4.drew).mono H4.out.1.size)
    have hS : ∀ W, Below w.heap.size w W → W.heap[w.heap.size]? = some (.cells #[.slice (some ⟨g, off, none⟩) n hc] 51 (0, 0)) → W.cell? ⟨w.heap.size, 0, none⟩ = some (.slice (some ⟨g, off, none⟩) n hc) ∧ W.cell? ⟨g, off + k * 3, none⟩ = some (.string xs) ∧ W.cell? ⟨g, off + k * 3 + 1, none⟩ = some (.slice pa pn pc) ∧ W.cell? ⟨g, off + k * 3 + 2, none⟩ = some (.slice qa qn qc) := fun W hW hbx => ⟨cell_of_row W w.heap.size 0 _ _ _ hbx, HG.out.1 W hW⟩
    have HS := Lib.hid hS
    have hS0 := hS w4.drew hb4d H4.out.2
    clear hS hb4d
    have HC : Hid (Below w.heap.size w w4.drew ∧ w4.drew.heap[w.heap.size]? = some (.cells #[.slice (some ⟨g, off, none⟩) n hc] 51 (0, 0))) := ⟨H4.out.1.trans ((below_drewN (Below.refl _ _) 1 : Below w4.heap.size w4 w4.drew).mono H4.out.1.size), H4.out.2⟩
    go_upto_region 4 with (fail)
    refine wp_region_U (fun W => W.cell? ⟨w.heap.size, 0, none⟩ = some (.slice (some ⟨g, off, none⟩) n hc) ∧ W.cell? ⟨g, off + k * 3, none⟩ = some (.string xs) ∧ W.cell? ⟨g, off + k * 3 + 1, none⟩ = some (.slice pa pn pc) ∧ W.cell? ⟨g, off + k * 3 + 2, none⟩ = some (.slice qa qn qc)) [] (by kernel_rfl) ?_
    refine wpAnyU_take (i := 0) [1, 5, 6, 8] rfl (by as_aux_lemma => kernel_rfl) (by as_aux_lemma => kernel_rfl) (by as_aux_lemma => kernel_rfl) (by as_aux_lemma => kernel_rfl) (by as_aux_lemma => kernel_rfl) (by as_aux_lemma => kernel_rfl) (fun _ _ _ h => h) (Or.inl ⟨by rfl, (by intro W hSW; (try dsimp only at hSW); (try go_split_ands); go_simp <;> with_reducible rfl)⟩) hS0 ?_
    try simp only [Act.put, List.getElem_toArray, List.getElem_cons_succ, List.getElem_cons_zero, List.setIfInBounds_toArray, List.set_cons_zero, List.set_cons_succ]
    refine wpAnyU_take (i := 1) [5, 6, 8] rfl (by as_aux_lemma => kernel_rfl) (by as_aux_lemma => kernel_rfl) (by as_aux_lemma => kernel_rfl) (by as_aux_lemma => kernel_rfl) (by as_aux_lemma => kernel_rfl) (by as_aux_lemma => kernel_rfl) (fun _ _ _ h => h) (Or.inl ⟨by rfl, (by intro W hSW; (try dsimp only at hSW); (try go_split_ands); go_simp <;> with_reducible rfl)⟩) hS0 ?_
    try simp only [Act.put, List.getElem_toArray, List.getElem_cons_succ, List.getElem_cons_zero, List.setIfInBounds_toArray, List.set_cons_zero, List.set_cons_succ]
    refine wpAnyU_take (i := 2) [4, 5, 6, 8] rfl (by as_aux_lemma => kernel_rfl) (by as_aux_lemma => kernel_rfl) (by as_aux_lemma => kernel_rfl) (by as_aux_lemma => kernel_rfl) (by as_aux_lemma => kernel_rfl) (by as_aux_lemma => kernel_rfl) (fun _ _ _ h => h) (Or.inl ⟨by rfl, (by intro W hSW; (try dsimp only at hSW); (try go_split_ands); go_simp <;> with_reducible rfl)⟩) hS0 ?_
    try simp only [Act.put, List.getElem_toArray, List.getElem_cons_succ, List.getElem_cons_zero, List.setIfInBounds_toArray, List.set_cons_zero, List.set_cons_succ]
    refine wpAnyU_take (i := 3) [4, 5, 6, 8] rfl (by as_aux_lemma => kernel_rfl) (by as_aux_lemma => kernel_rfl) (by as_aux_lemma => kernel_rfl) (by as_aux_lemma => kernel_rfl) (by as_aux_lemma => kernel_rfl) (by as_aux_lemma => kernel_rfl) (fun _ _ _ h => h) (Or.inl ⟨by rfl, (by intro W hSW; (try dsimp only at hSW); (try go_split_ands); go_simp <;> with_reducible rfl)⟩) hS0 ?_
    try simp only [Act.put, List.getElem_toArray, List.getElem_cons_succ, List.getElem_cons_zero, List.setIfInBounds_toArray, List.set_cons_zero, List.set_cons_succ]
    refine wpAnyU_two (i := 4) (j := 7) (by kernel_rfl) rfl rfl (fun K hK => ?_) (fun K hK => ?_)
    · go_simp
      go_at_call 62
      (with_reducible refine (HFI.out _ HC.out.1).mono ?_)
      rintro e w5 ⟨rfl, hb5⟩
      have hc5 : Below w.heap.size w w5 ∧ w5.heap[w.heap.size]? = some (.cells #[.slice (some ⟨g, off, none⟩) n hc] 51 (0, 0)) := ⟨HC.out.1.trans (hb5.mono HC.out.1.size), (hb5.block _ (lt_of_block HC.out.2)).trans HC.out.2⟩
      have hS5 := HS.out w5 hc5.1 hc5.2
      try (have k2 := (hb5.block _ (lt_of_block K2.out)).trans K2.out)
      try clear K2
      try (have K2 := Lib.hid k2)
      try clear k2
      clear HC
      have HC := Lib.hid hc5
      clear hc5 hb5
      refine hK.out _ _ (fun _ => hS5) (fun _ => ?_)
      clear hK K
      try simp only [Act.put, List.getElem_toArray, List.getElem_cons_succ, List.getElem_cons_zero, List.setIfInBounds_toArray, List.set_cons_zero, List.set_cons_succ]
      refine wpAnyU_take (i := 5) [6, 8] rfl (by as_aux_lemma => kernel_rfl) (by as_aux_lemma => kernel_rfl) (by as_aux_lemma => kernel_rfl) (by as_aux_lemma => kernel_rfl) (by as_aux_lemma => kernel_rfl) (by as_aux_lemma => kernel_rfl) (fun _ _ _ h => h) (Or.inl ⟨by rfl, (by intro W hSW; (try dsimp only at hSW); (try go_split_ands); go_simp <;> with_reducible rfl)⟩) hS5 ?_
      try simp only [Act.put, List.getElem_toArray, List.getElem_cons_succ, List.getElem_cons_zero, List.setIfInBounds_toArray, List.set_cons_zero, List.set_cons_succ]
      refine wpAnyU_take (i := 6) [8] rfl (by as_aux_lemma => kernel_rfl) (by as_aux_lemma => kernel_rfl) (by as_aux_lemma => kernel_rfl) (by as_aux_lemma => kernel_rfl) (by as_aux_lemma => kernel_rfl) (by as_aux_lemma => kernel_rfl) (fun _ _ _ h => h) (Or.inl ⟨by rfl, (by intro W hSW; (try dsimp only at hSW); (try go_split_ands); go_simp <;> with_reducible rfl)⟩) hS5 ?_
      try simp only [Act.put, List.getElem_toArray, List.getElem_cons_succ, List.getElem_cons_zero, List.setIfInBounds_toArray, List.set_cons_zero, List.set_cons_succ]
      refine wpAnyU_one (i := 7) (by kernel_rfl) rfl (fun K hK => ?_)
      go_simp
      first
        | (obtain ⟨w6, hw6⟩ : ∃ w6, w5.alloc (.cells #[.string ⟨#[]⟩, .slice none 0 0, .slice none 0 0] 98) = w6 := ⟨_, rfl⟩
           obtain ⟨B2, hB2⟩ : ∃ B2, w5.heap.size = B2 := ⟨_, rfl⟩
           have k2 : w6.heap[B2]? = some (.cells #[.string ⟨#[]⟩, .slice none 0 0, .slice none 0 0] 98 (0, 0)) := by rw [← hw6, ← hB2]; exact heap_alloc_new w5 _
           have hbA : Below w5.heap.size w5 w6 := by rw [← hw6]; exact (Below.refl _ _).alloc (Nat.le_refl _) _)
        | (obtain ⟨w6, hw6⟩ : ∃ w6, (w4.alloc (.cells #[.string ⟨#[]⟩, .slice none 0 0, .slice none 0 0] 98)).drew = w6 := ⟨_, rfl⟩
           obtain ⟨B2, hB2⟩ : ∃ B2, w4.heap.size = B2 := ⟨_, rfl⟩
           have k2 : w6.heap[B2]? = some (.cells #[.string ⟨#[]⟩, .slice none 0 0, .slice none 0 0] 98 (0, 0)) := by rw [← hw6, ← hB2]; exact heap_alloc_new w4 _
           have hbA : Below w4.drew.heap.size w4.drew w6 := by rw [← hw6]; exact below_of_drew (below_drewN ((Below.refl w4.heap.size w4).alloc (Nat.le_refl _) _) 1))
      try rw [hw6]
      have hc6 : Below w.heap.size w w6 ∧ w6.heap[w.heap.size]? = some (.cells #[.slice (some ⟨g, off, none⟩) n hc] 51 (0, 0)) := ⟨HC.out.1.trans (hbA.mono HC.out.1.size), (hbA.block _ (lt_of_block HC.out.2)).trans HC.out.2⟩
      have hS6 := HS.out w6 hc6.1 hc6.2
      have HB2 : Hid (w.heap.size < B2) := by show _ < _; have h1 := lt_of_block HC.out.2; first | (have h2 : w4.drew.heap.size = B2 := hB2; omega) | omega
      clear HC
      have HC := Lib.hid hc6
      have K2 := Lib.hid k2
      clear hc6 k2 hbA
      refine hK.out _ _ (fun _ => hS6) (fun _ => ?_)
      clear hK K
      try simp only [Act.put, List.getElem_toArray, List.getElem_cons_succ, List.getElem_cons_zero, List.setIfInBounds_toArray, List.set_cons_zero, List.set_cons_succ]
      refine wpAnyU_one (i := 8) (by kernel_rfl) rfl (fun K hK => ?_)
      refine step_store_is2 rfl _ _ _ rfl B2 #[.string xs, .slice pa pn pc, .slice qa qn qc] (by simp [Act.eval, Act.put, hB2]) (by simp [Act.eval, Act.put]) _ _ K2.out infoLk rfl (by simp [Value.oneCell']) ?_
      first
        | (obtain ⟨w7, hw7⟩ : ∃ w7, w6.setRow B2 #[.string xs, .slice pa pn pc, .slice qa qn qc] = w7 := ⟨_, rfl⟩
           rw [hw7]
           have hx7 := And.intro (setRow_heap w6 B2 _ #[.string xs, .slice pa pn pc, .slice qa qn qc] _ _ K2.out) (And.intro (fun k (hk : k ≠ B2) => setRow_otherL w6 B2 #[.string xs, .slice pa pn pc, .slice qa qn qc] k hk) (by simp only [World.setRow, Array.size_modify] : (w6.setRow B2 #[.string xs, .slice pa pn pc, .slice qa qn qc]).heap.size = w6.heap.size)))
        | (obtain ⟨w7, hw7⟩ : ∃ w7, w5.setRow B2 #[.string xs, .slice pa pn pc, .slice qa qn qc] = w7 := ⟨_, rfl⟩
           rw [hw7]
           have hx7 := And.intro (setRow_heap w5 B2 _ #[.string xs, .slice pa pn pc, .slice qa qn qc] _ _ K2.out) (And.intro (fun k (hk : k ≠ B2) => setRow_otherL w5 B2 #[.string xs, .slice pa pn pc, .slice qa qn qc] k hk) (by simp only [World.setRow, Array.size_modify] : (w5.setRow B2 #[.string xs, .slice pa pn pc, .slice qa qn qc]).heap.size = w5.heap.size)))
      rw [hw7] at hx7
      have hc7 : Below w.heap.size w w7 ∧ w7.heap[w.heap.size]? = some (.cells #[.slice (some ⟨g, off, none⟩) n hc] 51 (0, 0)) := ⟨⟨by rw [← hw7]; exact HC.out.1.os, by rw [← hw7]; exact HC.out.1.tape, by rw [← hw7]; exact HC.out.1.output, by rw [hx7.2.2]; exact HC.out.1.size, fun k hk => by rw [hx7.2.1 k (by have := HB2.out; omega)]; exact HC.out.1.block k hk⟩, by rw [hx7.2.1 _ (by have := HB2.out; omega)]; exact HC.out.2⟩
      have hS7 := HS.out w7 hc7.1 hc7.2
      have HT := Lib.hid (And.intro hc7.1 (And.intro hx7.1 (HB2.out)))
      clear hc7 HC K2 hx7 hw7
      refine hK.out _ _ (fun _ => hS7) (fun _ => ?_)
      clear hK K
      try simp only [Act.put, List.getElem_toArray, List.getElem_cons_succ, List.getElem_cons_zero, List.setIfInBounds_toArray, List.set_cons_zero, List.set_cons_succ]
      refine wpAnyU_done (by kernel_rfl) ?_ _
      clear hS0 hS5 hS6 hS7
      try simp only [hB2]
      try clear hB2
      try clear hw6
      go_wp2_with fail
      go_loopw [9, 10] (fun ov_ iv wr => ∃ (i : Nat) (l : List (Int × Int)) (oa : Option Addr) (oc : Nat), iv = .int .i64 i ∧ i ≤ pn ∧ l = (x.hs.take i).filter (notP o m) ∧ ov_ = .slice oa l.length oc ∧ WfR w w7 B2 (.cells #[.string xs, .slice pa pn pc, .slice qa qn qc] 98 (0, 0)) wr (.slice oa l.length oc) l) (fun _ iv _ => pn - (Go.RowKit.intOf iv).toNat)
      case atStart => exact ⟨0, [], none, 0, rfl, Nat.zero_le _, rfl, rfl, ⟨HT.out.1, HT.out.2.1, Nat.le_refl _, World.ownsRow_nil _ _ _ _, lt_of_block HT.out.2.1, HT.out.1.size⟩⟩
      case round =>
        obtain ⟨i, l, oa, oc, rfl, hin, hle, rfl, hR⟩ := hrel
        obtain ⟨ln, hln⟩ : ∃ ln, l.length = ln := ⟨_, rfl⟩
        rw [hln] at hR ⊢
        have z1 : wr.cell? ⟨B2, 1, none⟩ = some (.slice pa pn pc) := cell_of_row wr B2 1 _ _ _ hR.bx
        by_cases hlt : i < pn
        · have hil : i < x.hs.length := by rw [HG.out.2.2.2.1]; exact hlt
          obtain ⟨pg, po, rfl, hpo⟩ := HG.out.2.1.at_ HG.out.2.2.2.1 i hil
          obtain ⟨c0, c1⟩ := hpo wr hR.bl
          have htk := filter_take (p := notP o m) hil
          rw [← hle] at htk
          obtain ⟨p, hp⟩ : ∃ p, x.hs[i] = p := ⟨_, rfl⟩
          rw [hp] at c0 c1 htk hpo
          obtain ⟨u, mm⟩ := p
          simp only at c0 c1 hpo
          have hii : (i : Int) < (pn : Int) := by omega
          have hi0 : (0 : Int) ≤ (i : Int) := by omega
          have HWJ : Hid (wrap64 ((i : Int) + 1) = ((i + 1 : Nat) : Int)) := by show _ = _; have := HG.out.2.2.2.2.2.1; unfold wrap64; omega
          have HLN : Hid (ln ≤ i) := by show _ ≤ _; have h9 := List.length_filter_le (notP o m) (x.hs.take i); rw [← hle, hln, List.length_take] at h9; omega
          have HK := Lib.hid (And.intro hR (And.intro hlt (And.intro hle (And.intro htk (And.intro hln hpo)))))
          clear hR hlt hle htk hln hpo hin hil hp
          by_cases he : u = o
          · have hbb : (u != o) = false := by simp [he]
            clear c1
            go_wp2
            go_roundw
            case rel => exact ⟨i + 1, l, oa, oc, by rw [HWJ.out], HK.out.2.1, by rw [HK.out.2.2.2.1, if_neg (by unfold notP; simp [he]), List.append_nil], by rw [HK.out.2.2.2.2.1], by rw [HK.out.2.2.2.2.1]; exact HK.out.1⟩
            case measure => exact meas_up HWJ.out HK.out.2.1
          · have hbb : (u != o) = true := by simp [he]
            have htg := reftogether_any wr mm m
            have HTG := Lib.hid htg
            clear htg
            go_wp2_with fail
            clear c0 c1 z1
            refine HTG.out.mono ?_
            rintro e w8 ⟨rfl, hb8⟩
            have hR8 := HK.out.1.below hb8
            cases ht : tog mm m with
            | true =>
              have H8 := Lib.hid hR8
              clear hR8 hb8 HTG
              go_wp2
              go_roundw
              case rel => exact ⟨i + 1, l, oa, oc, by rw [HWJ.out], HK.out.2.1, by rw [HK.out.2.2.2.1, if_neg (by unfold notP; simp [ht]), List.append_nil], by rw [HK.out.2.2.2.2.1], by rw [HK.out.2.2.2.2.1]; exact H8.out⟩
              case measure => exact meas_up HWJ.out HK.out.2.1
            | false =>
              have z1 : w8.cell? ⟨B2, 1, none⟩ = some (.slice (some ⟨pg, po, none⟩) pn pc) := cell_of_row w8 B2 1 _ _ _ hR8.bx
              obtain ⟨c0, -⟩ := HK.out.2.2.2.2.2 w8 hR8.bl
              have hpu := hR8
              rw [← HK.out.2.2.2.2.1] at hpu
              obtain ⟨R, cp, w9, hr9, hR9⟩ := hpu.push (u, mm) (by have := HLN.out; have := HK.out.2.2.2.2.1; have := HG.out.2.2.2.2.2.1; have := HK.out.2.1; omega)
              rw [HK.out.2.2.2.2.1] at hr9
              have HR9 := Lib.hid hr9
              have H9 := Lib.hid hR9
              clear hpu hr9 hR9 hR8 hb8 HTG
              go_wp2_with (at_builtin; refine wpList_append_eq rfl rfl HR9.out rfl rfl ?_; clear HR9)
              go_roundw
              case rel => exact ⟨i + 1, l ++ [(u, mm)], _, cp, by rw [HWJ.out], HK.out.2.1, by rw [HK.out.2.2.2.1, if_pos (by unfold notP; simp [he, ht])], by rw [List.length_append, HK.out.2.2.2.2.1]; rfl, by have h9 := H9.out; rw [List.length_append]; exact h9⟩
              case measure => exact meas_up HWJ.out HK.out.2.1
        · have hii : ¬ (i : Int) < (pn : Int) := by omega
          have hle2 : l = x.hs.filter (notP o m) := by rw [hle, List.take_of_length_le (by rw [HG.out.2.2.2.1]; omega)]
          have hlm : ln ≤ pn := by have h9 := List.length_filter_le (notP o m) x.hs; rw [← hle2, hln, HG.out.2.2.2.1] at h9; exact h9
          have HK := Lib.hid (And.intro hR (And.intro hle2 (And.intro hln hlm)))
          clear hR hle hle2 hln hlt hin hlm
          obtain ⟨wt, rfl⟩ : ∃ wt : World, wt = wr := ⟨_, rfl⟩
          go_wp2_with fail
          clear z1
          go_loopw [9, 11] (fun ov_ jv wr => ∃ (j : Nat) (l2 : List (Int × Int)) (oa : Option Addr) (oc : Nat), jv = .int .i64 j ∧ j ≤ qn ∧ l2 = l ++ x.qs.take j ∧ (∀ a ∈ x.qs.take j, a.1 ≠ o) ∧ ov_ = .slice oa (ln + j) oc ∧ l2.length = ln + j ∧ WfR w w7 B2 (.cells #[.string xs, .slice pa pn pc, .slice qa qn qc] 98 (0, 0)) wr (.slice oa (ln + j) oc) l2) (fun _ jv _ => qn - (Go.RowKit.intOf jv).toNat)
          case atStart => exact ⟨0, l, oa, oc, rfl, Nat.zero_le _, by simp, by simp, rfl, HK.out.2.2.1, HK.out.1⟩
          case round =>
            obtain ⟨j, l2, ob, od, rfl, hjn, hl2, hne, rfl, hll, hR⟩ := hrel
            have z2 : wr.cell? ⟨B2, 2, none⟩ = some (.slice qa qn qc) := cell_of_row wr B2 2 _ _ _ hR.bx
            have hend : (x.qs.length ≤ j ∨ ∃ hk : j < x.qs.length, x.qs[j].1 = o) → l2 = wfL X o := fun he => by
              rw [HG.out.2.2.2.2.2.2, hl2, HK.out.2.1, ahead_takeR hne he]
            by_cases hlt : j < qn
            · have hjl : j < x.qs.length := by rw [HG.out.2.2.2.2.1]; exact hlt
              obtain ⟨qg, qo, rfl, hqo⟩ := HG.out.2.2.1.at_ HG.out.2.2.2.2.1 j hjl
              obtain ⟨c0, -⟩ := hqo wr hR.bl
              have htk : x.qs.take (j + 1) = x.qs.take j ++ [x.qs[j]] := by rw [List.take_add_one, List.getElem?_eq_getElem hjl]; rfl
              have hen2 : x.qs[j].1 = o → l2 = wfL X o := fun e => hend (.inr ⟨hjl, e⟩)
              obtain ⟨p, hp⟩ : ∃ p, x.qs[j] = p := ⟨_, rfl⟩
              rw [hp] at c0 htk hen2 hqo
              obtain ⟨u, mm⟩ := p
              simp only at c0 hen2 hqo
              have hjj : (j : Int) < (qn : Int) := by omega
              have hj0 : (0 : Int) ≤ (j : Int) := by omega
              have HWK : Hid (wrap64 ((j : Int) + 1) = ((j + 1 : Nat) : Int)) := by show _ = _; have := HG.out.2.2.2.2.2.1; unfold wrap64; omega
              have H2 := Lib.hid (And.intro hR (And.intro hlt (And.intro hl2 (And.intro htk (And.intro hll (And.intro hne (And.intro hen2 hqo)))))))
              clear hR hlt hl2 htk hll hne hen2 hjn hjl hp hend hqo
              by_cases he : u = o
              · have hbb : (u != o) = false := by simp [he]
                go_wp2
                go_ret
                refine ⟨_, rfl, ?_, H2.out.1.bl⟩
                rw [← H2.out.2.2.2.2.2.2.1 he, H2.out.2.2.2.2.1]
                have h9 := rowU_mono' H2.out.1.row H2.out.1.w7l
                rw [H2.out.2.2.2.2.1] at h9
                exact h9
              · have hbb : (u != o) = true := by simp [he]
                have hpu := H2.out.1
                rw [← H2.out.2.2.2.2.1] at hpu
                obtain ⟨R, cp, w9, hr9, hR9⟩ := hpu.push (u, mm) (by have := H2.out.2.2.2.2.1; have := HG.out.2.2.2.2.2.1; have := H2.out.2.1; have := HK.out.2.2.2; omega)
                rw [H2.out.2.2.2.2.1] at hr9 hR9
                have HR9 := Lib.hid hr9
                have H9 := Lib.hid hR9
                clear hpu hr9 hR9
                go_wp2_with (at_builtin; refine wpList_append_eq rfl rfl HR9.out rfl rfl ?_; clear HR9)
                go_roundw
                case rel => exact ⟨j + 1, l2 ++ [(u, mm)], _, cp, by rw [HWK.out], H2.out.2.1, by rw [H2.out.2.2.1, H2.out.2.2.2.1, List.append_assoc], by intro a ha; rw [H2.out.2.2.2.1] at ha; rcases List.mem_append.1 ha with h9 | h9; exact H2.out.2.2.2.2.2.1 a h9; rw [List.mem_singleton] at h9; rw [h9]; exact he, by rw [Nat.add_assoc], by rw [List.length_append, H2.out.2.2.2.2.1]; rfl, by have h9 := H9.out; exact h9⟩
                case measure => exact meas_up HWK.out H2.out.2.1
            · have hjj : ¬ (j : Int) < (qn : Int) := by omega
              have HF : Hid (l2 = wfL X o ∧ l2.length = ln + j ∧ WfR w w7 B2 (.cells #[.string xs, .slice pa pn pc, .slice qa qn qc] 98 (0, 0)) wr (.slice ob (ln + j) od) l2) := ⟨hend (.inl (by rw [HG.out.2.2.2.2.1]; omega)), hll, hR⟩
              clear hR hl2 hll hne hjn hlt hend
              go_wp2
              go_ret
              refine ⟨_, rfl, ?_, HF.out.2.2.bl⟩
              rw [← HF.out.1, HF.out.2.1]
              have h9 := rowU_mono' HF.out.2.2.row HF.out.2.2.w7l
              rw [HF.out.2.1] at h9
              exact h9
    · go_simp
      first
        | (obtain ⟨w6, hw6⟩ : ∃ w6, w5.alloc (.cells #[.string ⟨#[]⟩, .slice none 0 0, .slice none 0 0] 98) = w6 := ⟨_, rfl⟩
           obtain ⟨B2, hB2⟩ : ∃ B2, w5.heap.size = B2 := ⟨_, rfl⟩
           have k2 : w6.heap[B2]? = some (.cells #[.string ⟨#[]⟩, .slice none 0 0, .slice none 0 0] 98 (0, 0)) := by rw [← hw6, ← hB2]; exact heap_alloc_new w5 _
           have hbA : Below w5.heap.size w5 w6 := by rw [← hw6]; exact (Below.refl _ _).alloc (Nat.le_refl _) _)
        | (obtain ⟨w6, hw6⟩ : ∃ w6, (w4.alloc (.cells #[.string ⟨#[]⟩, .slice none 0 0, .slice none 0 0] 98)).drew = w6 := ⟨_, rfl⟩
           obtain ⟨B2, hB2⟩ : ∃ B2, w4.heap.size = B2 := ⟨_, rfl⟩
           have k2 : w6.heap[B2]? = some (.cells #[.string ⟨#[]⟩, .slice none 0 0, .slice none 0 0] 98 (0, 0)) := by rw [← hw6, ← hB2]; exact heap_alloc_new w4 _
           have hbA : Below w4.drew.heap.size w4.drew w6 := by rw [← hw6]; exact below_of_drew (below_drewN ((Below.refl w4.heap.size w4).alloc (Nat.le_refl _) _) 1))
      try rw [hw6]
      have hc6 : Below w.heap.size w w6 ∧ w6.heap[w.heap.size]? = some (.cells #[.slice (some ⟨g, off, none⟩) n hc] 51 (0, 0)) := ⟨HC.out.1.trans (hbA.mono HC.out.1.size), (hbA.block _ (lt_of_block HC.out.2)).trans HC.out.2⟩
      have hS6 := HS.out w6 hc6.1 hc6.2
      have HB2 : Hid (w.heap.size < B2) := by show _ < _; have h1 := lt_of_block HC.out.2; first | (have h2 : w4.drew.heap.size = B2 := hB2; omega) | omega
      clear HC
      have HC := Lib.hid hc6
      have K2 := Lib.hid k2
      clear hc6 k2 hbA
      refine hK.out _ _ (fun _ => hS6) (fun _ => ?_)
      clear hK K
      try simp only [Act.put, List.getElem_toArray, List.getElem_cons_succ, List.getElem_cons_zero, List.setIfInBounds_toArray, List.set_cons_zero, List.set_cons_succ]
      refine wpAnyU_one (i := 4) (by kernel_rfl) rfl (fun K hK => ?_)
      go_simp
      go_at_call 62
      (with_reducible refine (HFI.out _ HC.out.1).mono ?_)
      rintro e w5 ⟨rfl, hb5⟩
      have hc5 : Below w.heap.size w w5 ∧ w5.heap[w.heap.size]? = some (.cells #[.slice (some ⟨g, off, none⟩) n hc] 51 (0, 0)) := ⟨HC.out.1.trans (hb5.mono HC.out.1.size), (hb5.block _ (lt_of_block HC.out.2)).trans HC.out.2⟩
      have hS5 := HS.out w5 hc5.1 hc5.2
      try (have k2 := (hb5.block _ (lt_of_block K2.out)).trans K2.out)
      try clear K2
      try (have K2 := Lib.hid k2)
      try clear k2
      clear HC
      have HC := Lib.hid hc5
      clear hc5 hb5
      refine hK.out _ _ (fun _ => hS5) (fun _ => ?_)
      clear hK K
      try simp only [Act.put, List.getElem_toArray, List.getElem_cons_succ, List.getElem_cons_zero, List.setIfInBounds_toArray, List.set_cons_zero, List.set_cons_succ]
      refine wpAnyU_take (i := 5) [6, 8] rfl (by as_aux_lemma => kernel_rfl) (by as_aux_lemma => kernel_rfl) (by as_aux_lemma => kernel_rfl) (by as_aux_lemma => kernel_rfl) (by as_aux_lemma => kernel_rfl) (by as_aux_lemma => kernel_rfl) (fun _ _ _ h => h) (Or.inl ⟨by rfl, (by intro W hSW; (try dsimp only at hSW); (try go_split_ands); go_simp <;> with_reducible rfl)⟩) hS5 ?_
      try simp only [Act.put, List.getElem_toArray, List.getElem_cons_succ, List.getElem_cons_zero, List.setIfInBounds_toArray, List.set_cons_zero, List.set_cons_succ]
      refine wpAnyU_take (i := 6) [8] rfl (by as_aux_lemma => kernel_rfl) (by as_aux_lemma => kernel_rfl) (by as_aux_lemma => kernel_rfl) (by as_aux_lemma => kernel_rfl) (by as_aux_lemma => kernel_rfl) (by as_aux_lemma => kernel_rfl) (fun _ _ _ h => h) (Or.inl ⟨by rfl, (by intro W hSW; (try dsimp only at hSW); (try go_split_ands); go_simp <;> with_reducible rfl)⟩) hS5 ?_
      try simp only [Act.put, List.getElem_toArray, List.getElem_cons_succ, List.getElem_cons_zero, List.setIfInBounds_toArray, List.set_cons_zero, List.set_cons_succ]
      refine wpAnyU_one (i := 8) (by kernel_rfl) rfl (fun K hK => ?_)
      refine step_store_is2 rfl _ _ _ rfl B2 #[.string xs, .slice pa pn pc, .slice qa qn qc] (by simp [Act.eval, Act.put, hB2]) (by simp [Act.eval, Act.put]) _ _ K2.out infoLk rfl (by simp [Value.oneCell']) ?_
      first
        | (obtain ⟨w7, hw7⟩ : ∃ w7, w6.setRow B2 #[.string xs, .slice pa pn pc, .slice qa qn qc] = w7 := ⟨_, rfl⟩
           rw [hw7]
           have hx7 := And.intro (setRow_heap w6 B2 _ #[.string xs, .slice pa pn pc, .slice qa qn qc] _ _ K2.out) (And.intro (fun k (hk : k ≠ B2) => setRow_otherL w6 B2 #[.string xs, .slice pa pn pc, .slice qa qn qc] k hk) (by simp only [World.setRow, Array.size_modify] : (w6.setRow B2 #[.string xs, .slice pa pn pc, .slice qa qn qc]).heap.size = w6.heap.size)))
        | (obtain ⟨w7, hw7⟩ : ∃ w7, w5.setRow B2 #[.string xs, .slice pa pn pc, .slice qa qn qc] = w7 := ⟨_, rfl⟩
           rw [hw7]
           have hx7 := And.intro (setRow_heap w5 B2 _ #[.string xs, .slice pa pn pc, .slice qa qn qc] _ _ K2.out) (And.intro (fun k (hk : k ≠ B2) => setRow_otherL w5 B2 #[.string xs, .slice pa pn pc, .slice qa qn qc] k hk) (by simp only [World.setRow, Array.size_modify] : (w5.setRow B2 #[.string xs, .slice pa pn pc, .slice qa qn qc]).heap.size = w5.heap.size)))
      rw [hw7] at hx7
      have hc7 : Below w.heap.size w w7 ∧ w7.heap[w.heap.size]? = some (.cells #[.slice (some ⟨g, off, none⟩) n hc] 51 (0, 0)) := ⟨⟨by rw [← hw7]; exact HC.out.1.os, by rw [← hw7]; exact HC.out.1.tape, by rw [← hw7]; exact HC.out.1.output, by rw [hx7.2.2]; exact HC.out.1.size, fun k hk => by rw [hx7.2.1 k (by have := HB2.out; omega)]; exact HC.out.1.block k hk⟩, by rw [hx7.2.1 _ (by have := HB2.out; omega)]; exact HC.out.2⟩
      have hS7 := HS.out w7 hc7.1 hc7.2
      have HT := Lib.hid (And.intro hc7.1 (And.intro hx7.1 (HB2.out)))
      clear hc7 HC K2 hx7 hw7
      refine hK.out _ _ (fun _ => hS7) (fun _ => ?_)
      clear hK K
      try simp only [Act.put, List.getElem_toArray, List.getElem_cons_succ, List.getElem_cons_zero, List.setIfInBounds_toArray, List.set_cons_zero, List.set_cons_succ]
      refine wpAnyU_done (by kernel_rfl) ?_ _
      clear hS0 hS5 hS6 hS7
      try simp only [hB2]
      try clear hB2
      try clear hw6
      go_wp2_with fail
      go_loopw [9, 10] (fun ov_ iv wr => ∃ (i : Nat) (l : List (Int × Int)) (oa : Option Addr) (oc : Nat), iv = .int .i64 i ∧ i ≤ pn ∧ l = (x.hs.take i).filter (notP o m) ∧ ov_ = .slice oa l.length oc ∧ WfR w w7 B2 (.cells #[.string xs, .slice pa pn pc, .slice qa qn qc] 98 (0, 0)) wr (.slice oa l.length oc) l) (fun _ iv _ => pn - (Go.RowKit.intOf iv).toNat)
      case atStart => exact ⟨0, [], none, 0, rfl, Nat.zero_le _, rfl, rfl, ⟨HT.out.1, HT.out.2.1, Nat.le_refl _, World.ownsRow_nil _ _ _ _, lt_of_block HT.out.2.1, HT.out.1.size⟩⟩
      case round =>
        obtain ⟨i, l, oa, oc, rfl, hin, hle, rfl, hR⟩ := hrel
        obtain ⟨ln, hln⟩ : ∃ ln, l.length = ln := ⟨_, rfl⟩
        rw [hln] at hR ⊢
        have z1 : wr.cell? ⟨B2, 1, none⟩ = some (.slice pa pn pc) := cell_of_row wr B2 1 _ _ _ hR.bx
        by_cases hlt : i < pn
        · have hil : i < x.hs.length := by rw [HG.out.2.2.2.1]; exact hlt
          obtain ⟨pg, po, rfl, hpo⟩ := HG.out.2.1.at_ HG.out.2.2.2.1 i hil
          obtain ⟨c0, c1⟩ := hpo wr hR.bl
          have htk := filter_take (p := notP o m) hil
          rw [← hle] at htk
          obtain ⟨p, hp⟩ : ∃ p, x.hs[i] = p := ⟨_, rfl⟩
          rw [hp] at c0 c1 htk hpo
          obtain ⟨u, mm⟩ := p
          simp only at c0 c1 hpo
          have hii : (i : Int) < (pn : Int) := by omega
          have hi0 : (0 : Int) ≤ (i : Int) := by omega
          have HWJ : Hid (wrap64 ((i : Int) + 1) = ((i + 1 : Nat) : Int)) := by show _ = _; have := HG.out.2.2.2.2.2.1; unfold wrap64; omega
          have HLN : Hid (ln ≤ i) := by show _ ≤ _; have h9 := List.length_filter_le (notP o m) (x.hs.take i); rw [← hle, hln, List.length_take] at h9; omega
          have HK := Lib.hid (And.intro hR (And.intro hlt (And.intro hle (And.intro htk (And.intro hln hpo)))))
          clear hR hlt hle htk hln hpo hin hil hp
          by_cases he : u = o
          · have hbb : (u != o) = false := by simp [he]
            clear c1
            go_wp2
            go_roundw
            case rel => exact ⟨i + 1, l, oa, oc, by rw [HWJ.out], HK.out.2.1, by rw [HK.out.2.2.2.1, if_neg (by unfold notP; simp [he]), List.append_nil], by rw [HK.out.2.2.2.2.1], by rw [HK.out.2.2.2.2.1]; exact HK.out.1⟩
            case measure => exact meas_up HWJ.out HK.out.2.1
          · have hbb : (u != o) = true := by simp [he]
            have htg := reftogether_any wr mm m
            have HTG := Lib.hid htg
            clear htg
            go_wp2_with fail
            clear c0 c1 z1
            refine HTG.out.mono ?_
            rintro e w8 ⟨rfl, hb8⟩
            have hR8 := HK.out.1.below hb8
            cases ht : tog mm m with
            | true =>
              have H8 := Lib.hid hR8
              clear hR8 hb8 HTG
              go_wp2
              go_roundw
              case rel => exact ⟨i + 1, l, oa, oc, by rw [HWJ.out], HK.out.2.1, by rw [HK.out.2.2.2.1, if_neg (by unfold notP; simp [ht]), List.append_nil], by rw [HK.out.2.2.2.2.1], by rw [HK.out.2.2.2.2.1]; exact H8.out⟩
              case measure => exact meas_up HWJ.out HK.out.2.1
            | false =>
              have z1 : w8.cell? ⟨B2, 1, none⟩ = some (.slice (some ⟨pg, po, none⟩) pn pc) := cell_of_row w8 B2 1 _ _ _ hR8.bx
              obtain ⟨c0, -⟩ := HK.out.2.2.2.2.2 w8 hR8.bl
              have hpu := hR8
              rw [← HK.out.2.2.2.2.1] at hpu
              obtain ⟨R, cp, w9, hr9, hR9⟩ := hpu.push (u, mm) (by have := HLN.out; have := HK.out.2.2.2.2.1; have := HG.out.2.2.2.2.2.1; have := HK.out.2.1; omega)
              rw [HK.out.2.2.2.2.1] at hr9
              have HR9 := Lib.hid hr9
              have H9 := Lib.hid hR9
              clear hpu hr9 hR9 hR8 hb8 HTG
              go_wp2_with (at_builtin; refine wpList_append_eq rfl rfl HR9.out rfl rfl ?_; clear HR9)
              go_roundw
              case rel => exact ⟨i + 1, l ++ [(u, mm)], _, cp, by rw [HWJ.out], HK.out.2.1, by rw [HK.out.2.2.2.1, if_pos (by unfold notP; simp [he, ht])], by rw [List.length_append, HK.out.2.2.2.2.1]; rfl, by have h9 := H9.out; rw [List.length_append]; exact h9⟩
              case measure => exact meas_up HWJ.out HK.out.2.1
        · have hii : ¬ (i : Int) < (pn : Int) := by omega
          have hle2 : l = x.hs.filter (notP o m) := by rw [hle, List.take_of_length_le (by rw [HG.out.2.2.2.1]; omega)]
          have hlm : ln ≤ pn := by have h9 := List.length_filter_le (notP o m) x.hs; rw [← hle2, hln, HG.out.2.2.2.1] at h9; exact h9
          have HK := Lib.hid (And.intro hR (And.intro hle2 (And.intro hln hlm)))
          clear hR hle hle2 hln hlt hin hlm
          obtain ⟨wt, rfl⟩ : ∃ wt : World, wt = wr := ⟨_, rfl⟩
          go_wp2_with fail
          clear z1
          go_loopw [9, 11] (fun ov_ jv wr => ∃ (j : Nat) (l2 : List (Int × Int)) (oa : Option Addr) (oc : Nat), jv = .int .i64 j ∧ j ≤ qn ∧ l2 = l ++ x.qs.take j ∧ (∀ a ∈ x.qs.take j, a.1 ≠ o) ∧ ov_ = .slice oa (ln + j) oc ∧ l2.length = ln + j ∧ WfR w w7 B2 (.cells #[.string xs, .slice pa pn pc, .slice qa qn qc] 98 (0, 0)) wr (.slice oa (ln + j) oc) l2) (fun _ jv _ => qn - (Go.RowKit.intOf jv).toNat)
          case atStart => exact ⟨0, l, oa, oc, rfl, Nat.zero_le _, by simp, by simp, rfl, HK.out.2.2.1, HK.out.1⟩
          case round =>
            obtain ⟨j, l2, ob, od, rfl, hjn, hl2, hne, rfl, hll, hR⟩ := hrel
            have z2 : wr.cell? ⟨B2, 2, none⟩ = some (.slice qa qn qc) := cell_of_row wr B2 2 _ _ _ hR.bx
            have hend : (x.qs.length ≤ j ∨ ∃ hk : j < x.qs.length, x.qs[j].1 = o) → l2 = wfL X o := fun he => by
              rw [HG.out.2.2.2.2.2.2, hl2, HK.out.2.1, ahead_takeR hne he]
            by_cases hlt : j < qn
            · have hjl : j < x.qs.length := by rw [HG.out.2.2.2.2.1]; exact hlt
              obtain ⟨qg, qo, rfl, hqo⟩ := HG.out.2.2.1.at_ HG.out.2.2.2.2.1 j hjl
              obtain ⟨c0, -⟩ := hqo wr hR.bl
              have htk : x.qs.take (j + 1) = x.qs.take j ++ [x.qs[j]] := by rw [List.take_add_one, List.getElem?_eq_getElem hjl]; rfl
              have hen2 : x.qs[j].1 = o → l2 = wfL X o := fun e => hend (.inr ⟨hjl, e⟩)
              obtain ⟨p, hp⟩ : ∃ p, x.qs[j] = p := ⟨_, rfl⟩
              rw [hp] at c0 htk hen2 hqo
              obtain ⟨u, mm⟩ := p
              simp only at c0 hen2 hqo
              have hjj : (j : Int) < (qn : Int) := by omega
              have hj0 : (0 : Int) ≤ (j : Int) := by omega
              have HWK : Hid (wrap64 ((j : Int) + 1) = ((j + 1 : Nat) : Int)) := by show _ = _; have := HG.out.2.2.2.2.2.1; unfold wrap64; omega
              have H2 := Lib.hid (And.intro hR (And.intro hlt (And.intro hl2 (And.intro htk (And.intro hll (And.intro hne (And.intro hen2 hqo)))))))
              clear hR hlt hl2 htk hll hne hen2 hjn hjl hp hend hqo
              by_cases he : u = o
              · have hbb : (u != o) = false := by simp [he]
                go_wp2
                go_ret
                refine ⟨_, rfl, ?_, H2.out.1.bl⟩
                rw [← H2.out.2.2.2.2.2.2.1 he, H2.out.2.2.2.2.1]
                have h9 := rowU_mono' H2.out.1.row H2.out.1.w7l
                rw [H2.out.2.2.2.2.1] at h9
                exact h9
              · have hbb : (u != o) = true := by simp [he]
                have hpu := H2.out.1
                rw [← H2.out.2.2.2.2.1] at hpu
                obtain ⟨R, cp, w9, hr9, hR9⟩ := hpu.push (u, mm) (by have := H2.out.2.2.2.2.1; have := HG.out.2.2.2.2.2.1; have := H2.out.2.1; have := HK.out.2.2.2; omega)
                rw [H2.out.2.2.2.2.1] at hr9 hR9
                have HR9 := Lib.hid hr9
                have H9 := Lib.hid hR9
                clear hpu hr9 hR9
                go_wp2_with (at_builtin; refine wpList_append_eq rfl rfl HR9.out rfl rfl ?_; clear HR9)
                go_roundw
                case rel => exact ⟨j + 1, l2 ++ [(u, mm)], _, cp, by rw [HWK.out], H2.out.2.1, by rw [H2.out.2.2.1, H2.out.2.2.2.1, List.append_assoc], by intro a ha; rw [H2.out.2.2.2.1] at ha; rcases List.mem_append.1 ha with h9 | h9; exact H2.out.2.2.2.2.2.1 a h9; rw [List.mem_singleton] at h9; rw [h9]; exact he, by rw [Nat.add_assoc], by rw [List.length_append, H2.out.2.2.2.2.1]; rfl, by have h9 := H9.out; exact h9⟩
                case measure => exact meas_up HWK.out H2.out.2.1
            · have hjj : ¬ (j : Int) < (qn : Int) := by omega
              have HF : Hid (l2 = wfL X o ∧ l2.length = ln + j ∧ WfR w w7 B2 (.cells #[.string xs, .slice pa pn pc, .slice qa qn qc] 98 (0, 0)) wr (.slice ob (ln + j) od) l2) := ⟨hend (.inl (by rw [HG.out.2.2.2.2.1]; omega)), hll, hR⟩
              clear hR hl2 hll hne hjn hlt hend
              go_wp2
              go_ret
              refine ⟨_, rfl, ?_, HF.out.2.2.bl⟩
              rw [← HF.out.1, HF.out.2.1]
              have h9 := rowU_mono' HF.out.2.2.row HF.out.2.2.w7l
              rw [HF.out.2.1] at h9
              exact h9
end Mun
