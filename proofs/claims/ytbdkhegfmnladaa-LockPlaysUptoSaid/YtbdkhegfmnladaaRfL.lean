/- looks: a table tells what the reference's does. -/
import Derived.Test.YtbdkhegfmnladaaRfV
import Derived.Test.YtbdkhegfmnladaaRfU
import Derived.Test.YtbdkhegfmnladaaMgM
set_option maxRecDepth 100000
set_option linter.unusedVariables false
set_option linter.unusedSimpArgs false
namespace Mun
open Go Go.RowKit
open Go.Proofs

theorem gr_cell {w : World} {B : Nat} {a : Option Addr} {n c : Nat} {L : List (ByteArray × Int)} (h : w.ownsRow B 33 2 (.slice a n c) n (grC L)) (hn : L.length = n) (k : Nat) (hk : k < L.length) :
    ∃ g off, a = some ⟨g, off, none⟩ ∧ ∀ W, Below w.heap.size w W → W.cell? ⟨g, off + k * 2, none⟩ = some (.string L[k].1) ∧ W.cell? ⟨g, off + k * 2 + 1, none⟩ = some (.int .i64 L[k].2) := by
  obtain ⟨g, off, c', hv, -, -, -, hg, hc⟩ := (RdV.of_own (F := NoF) h (fun _ _ => noF _)).at_ (by omega)
  injection hv with e1 e2 e3
  obtain ⟨k1, k2⟩ := grC_get L k hk
  refine ⟨g, off, e1, fun W hb => ?_⟩
  have h1 := hc _ _ k1
  have h2 := hc _ _ k2
  rw [← Nat.add_assoc] at h2
  exact ⟨(World.cell?_of_block (hb.block g hg)).trans h1, (World.cell?_of_block (hb.block g hg)).trans h2⟩
theorem ns_cell {w : World} {B : Nat} {a : Option Addr} {n c : Nat} {L : List (ByteArray × Int)} (h : w.ownsRow B 9 1 (.slice a n c) n (nsV L)) (hn : L.length = n) (k : Nat) (hk : k < L.length) :
    ∃ g off, a = some ⟨g, off, none⟩ ∧ ∀ W, Below w.heap.size w W → W.cell? ⟨g, off + k, none⟩ = some (.string L[k].1) := by
  obtain ⟨g, off, c', hv, -, -, -, hg, hc⟩ := (RdV.of_own (F := NoF) h (fun _ _ => noF _)).at_ (by omega)
  injection hv with e1 e2 e3
  refine ⟨g, off, e1, fun W hb => ?_⟩
  have h1 := hc k (.string L[k].1) (by unfold nsV; rw [List.getElem?_map, List.getElem?_eq_getElem hk]; rfl)
  exact (World.cell?_of_block (hb.block g hg)).trans h1
theorem ms_cell {w : World} {B : Nat} {a : Option Addr} {n c : Nat} {L : List (ByteArray × Int)} (h : w.ownsRow B 3 1 (.slice a n c) n (msV L)) (hn : L.length = n) (k : Nat) (hk : k < L.length) :
    ∃ g off, a = some ⟨g, off, none⟩ ∧ ∀ W, Below w.heap.size w W → W.cell? ⟨g, off + k, none⟩ = some (.int .i64 L[k].2) := by
  obtain ⟨g, off, c', hv, -, -, -, hg, hc⟩ := (RdV.of_own (F := NoF) h (fun _ _ => noF _)).at_ (by omega)
  injection hv with e1 e2 e3
  refine ⟨g, off, e1, fun W hb => ?_⟩
  have h1 := hc k (.int .i64 L[k].2) (by unfold msV; rw [List.getElem?_map, List.getElem?_eq_getElem hk]; rfl)
  exact (World.cell?_of_block (hb.block g hg)).trans h1
theorem waits_same {X : List LX} {A : AS} (hr : RelX X A) (hok : A.Ok) {o : Int} {gs : ByteArray} {gm : Int} {gw : Bool} (h : (gw = true ∧ (o, gm) ∈ A.Q gs) ∨ (gw = false ∧ ¬ A.waits o ∧ gs = ⟨#[]⟩ ∧ gm = 0)) : waitV (waitP X o) = .tuple #[.string gs, .int .i64 gm, .bool gw] := by
  rcases hr.waits o with ⟨e, hn⟩ | ⟨s, m, e, hq⟩
  · rcases h with ⟨-, h9⟩ | ⟨h1, -, h2, h3⟩
    · exact absurd ⟨gs, gm, h9⟩ hn
    · rw [e, h1, h2, h3]; rfl
  · rcases h with ⟨h1, h9⟩ | ⟨-, h9, -⟩
    · have hs := hok.qu o s m gs gm hq h9
      subst hs
      have k1 := klook_mem (hok.qn s) hq
      have k2 := klook_mem (hok.qn s) h9
      simp only at k1 k2
      rw [k1] at k2
      injection k2 with k2
      rw [e, h1, k2]; rfl
    · exact absurd ⟨s, m, hq⟩ h9
theorem grn_form {w : World} {B : Nat} {v : Value} {n : Nat} {xs : List Value} {e : TypeId} {size : Nat} (h : w.ownsRow B e size v n xs) : ∃ a c, v = .slice a n c := ownsRow_form h

/-- within looks' loop -/
structure LoR (w : World) (box : Obj) (wr : World) : Prop where
  bl : Below w.heap.size w wr
  bx : wr.heap[w.heap.size]? = some box
theorem LoR.below {w wr w' : World} {box : Obj} (h : LoR w box wr) (hb : Below wr.heap.size wr w') : LoR w box w' := ⟨h.bl.trans (hb.mono h.bl.size), (hb.block _ (lt_of_block h.bx)).trans h.bx⟩

set_option maxHeartbeats 8000000 in
theorem looks_true {F : Foot} {W1 w : World} {T : Nat} {t : TV} {A : AS} {c : Nat} (v mv : Value) (X : List LX) (l : List LDeed) (hsd : Sd W1 w T t A c) (hc : c ≤ 1048576) (hm : TabF F w mv X) (hr : RelX X A) (hsz : XSz X 1048576) (hv : LDeedsAt NoF w v l) (hl : l.length ≤ 3518437208882) :
    Calls Try.prog 26 #[.pointer (some ⟨T, 0, none⟩), .agg #[mv], v] w fun e w' => e = .returned (.bool true) ∧ Below w.heap.size w w' := by
  obtain ⟨va, vc, rfl, -, -⟩ := hv.row.form
  obtain ⟨ma, mc, rfl, -, -⟩ := hm.row.form
  obtain ⟨n, hn⟩ : ∃ n, l.length = n := ⟨_, rfl⟩
  obtain ⟨mn, hmn⟩ : ∃ mn, X.length = mn := ⟨_, rfl⟩
  rw [hmn] at hm ⊢
  rw [hn] at hv ⊢
  obtain ⟨wb, hwb⟩ : ∃ wb, w.alloc (.cells #[.slice ma mn mc] 51) = wb := ⟨_, rfl⟩
  have hbb : Below w.heap.size w wb := by rw [← hwb]; exact (Below.refl _ _).alloc (Nat.le_refl _) _
  have kb : wb.heap[w.heap.size]? = some (.cells #[.slice ma mn mc] 51 (0, 0)) := by rw [← hwb]; exact heap_alloc_new w _
  have hok := hsd.ok
  have HX := Lib.hid (And.intro hsd (And.intro hc (And.intro hm (And.intro hr (And.intro hsz (And.intro hok (And.intro hmn hn)))))))
  have HV := Lib.hid (And.intro hv hl)
  have HB : Hid (LoR w (.cells #[.slice ma mn mc] 51 (0, 0)) wb) := ⟨hbb, kb⟩
  clear hsd hc hm hr hsz hok hmn hn hv hl hbb kb
  go_enter Try.func26, Try.ntmps26
  go_wp2_with fail
  go_loopw [7] (fun iv wr => ∃ i : Nat, iv = .int .i64 i ∧ i ≤ n ∧ LoR w (.cells #[.slice ma mn mc] 51 (0, 0)) wr) (fun iv _ => n - (Go.RowKit.intOf iv).toNat)
  case atStart => exact ⟨0, rfl, Nat.zero_le _, by first | exact HB.out | (rw [hwb]; exact HB.out)⟩
  case round =>
    obtain ⟨i, rfl, hin, hR⟩ := hrel
    by_cases hlt : i < n
    · have hil : i < l.length := by rw [HX.out.2.2.2.2.2.2.2]; exact hlt
      obtain ⟨g, off, c', hvv, -, k1, k2, -⟩ := HV.out.1.at_ i hil
      rw [HX.out.2.2.2.2.2.2.2] at hvv
      injection hvv with e1 e2 e3
      subst e1
      clear e2 e3
      obtain ⟨x, hx⟩ : ∃ x, l[i] = x := ⟨_, rfl⟩
      rw [hx] at k1 k2
      obtain ⟨xop, xo, xs, xm⟩ := x
      simp only at k1 k2
      have hcel : ∀ W, Below w.heap.size w W → W.cell? ⟨g, off + i * 4 + 1, none⟩ = some (.int .u64 xo) ∧ W.cell? ⟨g, off + i * 4 + 2, none⟩ = some (.string xs) := fun W hb => ⟨(World.cell?_of_block (hb.block _ (World.block_lt_of_cell? _ _ k1))).trans k1, (World.cell?_of_block (hb.block _ (World.block_lt_of_cell? _ _ k2))).trans k2⟩
      obtain ⟨y1, -⟩ := hcel wr hR.bl
      have hii : (i : Int) < (n : Int) := by omega
      have hi0 : (0 : Int) ≤ (i : Int) := by omega
      have HWJ : Hid (wrap64 ((i : Int) + 1) = ((i + 1 : Nat) : Int)) := by show _ = _; have := HV.out.2; unfold wrap64; omega
      have hre := r14_held wr _ X (HX.out.2.2.1.below hR.bl) (by have := HX.out.2.2.2.2.1.ln; omega) (fun z hz => by have := tot_mem hz; have := HX.out.2.2.2.2.1.tt; omega) xo
      have HRE := Lib.hid hre
      have HC := Lib.hid hcel
      have HR := Lib.hid (And.intro hR hlt)
      clear k1 k2 hcel hR hlt hin hil hx hre
      go_wp2_with (first | (refine wpList_load_row rfl _ _ rfl w.heap.size rfl _ _ (0, 0) _ HR.out.1.bx Try.underlying51 rfl infoT ?_) | fail)
      clear y1
      refine HRE.out.mono ?_
      rintro e w4 ⟨na, nb, rfl, hrn, hrm, hb4⟩
      have hR4 := HR.out.1.below hb4
      have hhe := (HX.out.1.below hR4.bl).held (by have := HX.out.2.1; omega) xo
      have HHE := Lib.hid hhe
      have H4 := Lib.hid (And.intro hR4 (And.intro hrn hrm))
      clear hR4 hb4 hrn hrm hhe HRE
      go_wp2_with fail
      refine HHE.out.mono ?_
      rintro e w5 ⟨hv5, ns, rfl, q1, q2, q3, q4, hrow5, hb5⟩
      have hheq := HX.out.2.2.2.1.held HX.out.2.2.2.2.2.1 xo q1 q2 q3
      have hrn := H4.out.2.1
      have hrm := H4.out.2.2
      rw [hheq] at hrn hrm
      have hln : (HeldOf A xo ns).length = ns.length := by unfold HeldOf; simp
      obtain ⟨L, hL⟩ : ∃ L, HeldOf A xo ns = L := ⟨_, rfl⟩
      obtain ⟨m, hm⟩ : ∃ m, L.length = m := ⟨_, rfl⟩
      rw [hL] at hrow5 hrn hrm hln
      rw [hm] at hrn hrm hln
      rw [← hln] at hrow5
      have hR5 := H4.out.1.below hb5
      obtain ⟨aa, ac, rfl⟩ := ownsRow_form hrn
      obtain ⟨ba, bc, rfl⟩ := ownsRow_form hrm
      obtain ⟨ca, cc, rfl⟩ := ownsRow_form hrow5
      have hmc : m ≤ 1048576 := by rw [hln]; have := HX.out.2.1; omega
      have H5 := Lib.hid (And.intro hR5 (And.intro (rowU_keep hrn (fun k e => hb5.block k (hrn.lt k e).2)) (And.intro (rowU_keep hrm (fun k e => hb5.block k (hrm.lt k e).2)) (And.intro hrow5 (And.intro hm hmc)))))
      clear hR5 hrn hrm hrow5 hm hmc hb5 hheq q1 q2 q3 q4 hL hln HHE
      go_wp2_with fail
      go_loopw [12] (fun kv wr => ∃ k : Nat, kv = .int .i64 k ∧ k ≤ m ∧ Below w5.heap.size w5 wr) (fun kv _ => m - (Go.RowKit.intOf kv).toNat)
      case atStart => exact ⟨0, rfl, Nat.zero_le _, Below.refl _ _⟩
      case round =>
        obtain ⟨k, rfl, hkm, hbk⟩ := hrel
        by_cases hkl : k < m
        · have hkL : k < L.length := by rw [H5.out.2.2.2.2.1]; exact hkl
          obtain ⟨hg, ho, rfl, hco1⟩ := gr_cell H5.out.2.2.2.1 H5.out.2.2.2.2.1 k hkL
          obtain ⟨ag, ao, rfl, hco2⟩ := ns_cell H5.out.2.1 H5.out.2.2.2.2.1 k hkL
          obtain ⟨bg, bo, rfl, hco3⟩ := ms_cell H5.out.2.2.1 H5.out.2.2.2.2.1 k hkL
          have hbd : Below w5.heap.size w5 wr.drew := below_drewN hbk 1
          obtain ⟨x1, x2⟩ := hco1 wr.drew hbd
          have x3 := hco2 wr.drew hbd
          have x4 := hco3 wr.drew hbd
          obtain ⟨pp, hpp⟩ : ∃ pp, L[k] = pp := ⟨_, rfl⟩
          rw [hpp] at x1 x2 x3 x4
          obtain ⟨ps, pm⟩ := pp
          simp only at x1 x2 x3 x4
          have hS0 : wr.drew.cell? ⟨hg, ho + k * 2, none⟩ = some (.string ps) ∧ wr.drew.cell? ⟨hg, ho + k * 2 + 1, none⟩ = some (.int .i64 pm) ∧ wr.drew.cell? ⟨ag, ao + k, none⟩ = some (.string ps) ∧ wr.drew.cell? ⟨bg, bo + k, none⟩ = some (.int .i64 pm) := ⟨x1, x2, x3, x4⟩
          have hkk : (k : Int) < (m : Int) := by omega
          have hk0 : (0 : Int) ≤ (k : Int) := by omega
          have HWK : Hid (wrap64 ((k : Int) + 1) = ((k + 1 : Nat) : Int)) := by show _ = _; have := H5.out.2.2.2.2.2; unfold wrap64; omega
          have hss : (ps.toList == ps.toList) = true := by simp
          have hmm : (pm == pm) = true := by simp
          have HK := Lib.hid (And.intro hbd hkl)
          clear hbk hkl hkm hkL hco1 hco2 hco3 hbd x1 x2 x3 x4 hpp
          go_upto_region 12 with (fail)
          refine wp_region_U (fun W => W.cell? ⟨hg, ho + k * 2, none⟩ = some (.string ps) ∧ W.cell? ⟨hg, ho + k * 2 + 1, none⟩ = some (.int .i64 pm) ∧ W.cell? ⟨ag, ao + k, none⟩ = some (.string ps) ∧ W.cell? ⟨bg, bo + k, none⟩ = some (.int .i64 pm)) [] (by kernel_rfl) ?_
          refine wpAnyU_take (i := 0) [2, 3, 4, 9, 10, 11, 12, 13, 14, 15, 16, 17, 18, 19, 20, 21] rfl (by as_aux_lemma => kernel_rfl) (by as_aux_lemma => kernel_rfl) (by as_aux_lemma => kernel_rfl) (by as_aux_lemma => kernel_rfl) (by as_aux_lemma => kernel_rfl) (by as_aux_lemma => kernel_rfl) (fun _ _ _ h => h) (Or.inl ⟨by rfl, (by intro W hSW; (try dsimp only at hSW); (try go_split_ands); go_simp <;> with_reducible rfl)⟩) hS0 ?_
          try simp only [Act.put, List.getElem_toArray, List.getElem_cons_succ, List.getElem_cons_zero, List.setIfInBounds_toArray, List.set_cons_zero, List.set_cons_succ]
          refine wpAnyU_take (i := 1) [2, 3, 4, 9, 10, 11, 12, 13, 14, 15, 16, 17, 18, 19, 20, 21] rfl (by as_aux_lemma => kernel_rfl) (by as_aux_lemma => kernel_rfl) (by as_aux_lemma => kernel_rfl) (by as_aux_lemma => kernel_rfl) (by as_aux_lemma => kernel_rfl) (by as_aux_lemma => kernel_rfl) (fun _ _ _ h => h) (Or.inl ⟨by rfl, (by intro W hSW; (try dsimp only at hSW); (try go_split_ands); go_simp <;> with_reducible rfl)⟩) hS0 ?_
          try simp only [Act.put, List.getElem_toArray, List.getElem_cons_succ, List.getElem_cons_zero, List.setIfInBounds_toArray, List.set_cons_zero, List.set_cons_succ]
          refine wpAnyU_take (i := 2) [3, 4, 9, 10, 11, 12, 13, 14, 15, 16, 17, 18, 19, 20, 21] rfl (by as_aux_lemma => kernel_rfl) (by as_aux_lemma => kernel_rfl) (by as_aux_lemma => kernel_rfl) (by as_aux_lemma => kernel_rfl) (by as_aux_lemma => kernel_rfl) (by as_aux_lemma => kernel_rfl) (fun _ _ _ h => h) (Or.inl ⟨by rfl, (by intro W hSW; (try dsimp only at hSW); (try go_split_ands); go_simp <;> with_reducible rfl)⟩) hS0 ?_
          try simp only [Act.put, List.getElem_toArray, List.getElem_cons_succ, List.getElem_cons_zero, List.setIfInBounds_toArray, List.set_cons_zero, List.set_cons_succ]
          refine wpAnyU_take (i := 3) [4, 9, 10, 11, 12, 13, 14, 15, 16, 17, 18, 19, 20, 21] rfl (by as_aux_lemma => kernel_rfl) (by as_aux_lemma => kernel_rfl) (by as_aux_lemma => kernel_rfl) (by as_aux_lemma => kernel_rfl) (by as_aux_lemma => kernel_rfl) (by as_aux_lemma => kernel_rfl) (fun _ _ _ h => h) (Or.inl ⟨by rfl, (by intro W hSW; (try dsimp only at hSW); (try go_split_ands); go_simp <;> with_reducible rfl)⟩) hS0 ?_
          try simp only [Act.put, List.getElem_toArray, List.getElem_cons_succ, List.getElem_cons_zero, List.setIfInBounds_toArray, List.set_cons_zero, List.set_cons_succ]
          refine wpAnyU_take (i := 4) [9, 10, 11, 12, 13, 14, 15, 16, 17, 18, 19, 20, 21] rfl (by as_aux_lemma => kernel_rfl) (by as_aux_lemma => kernel_rfl) (by as_aux_lemma => kernel_rfl) (by as_aux_lemma => kernel_rfl) (by as_aux_lemma => kernel_rfl) (by as_aux_lemma => kernel_rfl) (fun _ _ _ h => h) (Or.inl ⟨by rfl, (by intro W hSW; (try dsimp only at hSW); (try go_split_ands); go_simp <;> with_reducible rfl)⟩) hS0 ?_
          try simp only [Act.put, List.getElem_toArray, List.getElem_cons_succ, List.getElem_cons_zero, List.setIfInBounds_toArray, List.set_cons_zero, List.set_cons_succ]
          refine wpAnyU_take (i := 5) [7, 8, 9, 10, 11, 12, 13, 14, 15, 16, 17, 18, 19, 20, 21] rfl (by as_aux_lemma => kernel_rfl) (by as_aux_lemma => kernel_rfl) (by as_aux_lemma => kernel_rfl) (by as_aux_lemma => kernel_rfl) (by as_aux_lemma => kernel_rfl) (by as_aux_lemma => kernel_rfl) (fun _ _ _ h => h) (Or.inl ⟨by rfl, (by intro W hSW; (try dsimp only at hSW); (try go_split_ands); go_simp <;> with_reducible rfl)⟩) hS0 ?_
          try simp only [Act.put, List.getElem_toArray, List.getElem_cons_succ, List.getElem_cons_zero, List.setIfInBounds_toArray, List.set_cons_zero, List.set_cons_succ]
          refine wpAnyU_take (i := 6) [7, 8, 9, 10, 11, 12, 13, 14, 15, 16, 17, 18, 19, 20, 21] rfl (by as_aux_lemma => kernel_rfl) (by as_aux_lemma => kernel_rfl) (by as_aux_lemma => kernel_rfl) (by as_aux_lemma => kernel_rfl) (by as_aux_lemma => kernel_rfl) (by as_aux_lemma => kernel_rfl) (fun _ _ _ h => h) (Or.inl ⟨by rfl, (by intro W hSW; (try dsimp only at hSW); (try go_split_ands); go_simp <;> with_reducible rfl)⟩) hS0 ?_
          try simp only [Act.put, List.getElem_toArray, List.getElem_cons_succ, List.getElem_cons_zero, List.setIfInBounds_toArray, List.set_cons_zero, List.set_cons_succ]
          refine wpAnyU_take (i := 7) [8, 9, 10, 11, 12, 13, 14, 15, 16, 17, 18, 19, 20, 21] rfl (by as_aux_lemma => kernel_rfl) (by as_aux_lemma => kernel_rfl) (by as_aux_lemma => kernel_rfl) (by as_aux_lemma => kernel_rfl) (by as_aux_lemma => kernel_rfl) (by as_aux_lemma => kernel_rfl) (fun _ _ _ h => h) (Or.inl ⟨by rfl, (by intro W hSW; (try dsimp only at hSW); (try go_split_ands); go_simp <;> with_reducible rfl)⟩) hS0 ?_
          try simp only [Act.put, List.getElem_toArray, List.getElem_cons_succ, List.getElem_cons_zero, List.setIfInBounds_toArray, List.set_cons_zero, List.set_cons_succ]
          refine wpAnyU_take (i := 8) [9, 10, 11, 12, 13, 14, 15, 16, 17, 18, 19, 20, 21] rfl (by as_aux_lemma => kernel_rfl) (by as_aux_lemma => kernel_rfl) (by as_aux_lemma => kernel_rfl) (by as_aux_lemma => kernel_rfl) (by as_aux_lemma => kernel_rfl) (by as_aux_lemma => kernel_rfl) (fun _ _ _ h => h) (Or.inl ⟨by rfl, (by intro W hSW; (try dsimp only at hSW); (try go_split_ands); go_simp <;> with_reducible rfl)⟩) hS0 ?_
          try simp only [Act.put, List.getElem_toArray, List.getElem_cons_succ, List.getElem_cons_zero, List.setIfInBounds_toArray, List.set_cons_zero, List.set_cons_succ]
          refine wpAnyU_take (i := 9) [10, 11, 12, 13, 14, 15, 16, 17, 18, 19, 20, 21] rfl (by as_aux_lemma => kernel_rfl) (by as_aux_lemma => kernel_rfl) (by as_aux_lemma => kernel_rfl) (by as_aux_lemma => kernel_rfl) (by as_aux_lemma => kernel_rfl) (by as_aux_lemma => kernel_rfl) (fun _ _ _ h => h) (Or.inl ⟨by rfl, (by intro W hSW; (try dsimp only at hSW); (try go_split_ands); go_simp <;> with_reducible rfl)⟩) hS0 ?_
          try simp only [Act.put, List.getElem_toArray, List.getElem_cons_succ, List.getElem_cons_zero, List.setIfInBounds_toArray, List.set_cons_zero, List.set_cons_succ]
          refine wpAnyU_take (i := 10) [11, 12, 13, 14, 15, 16, 17, 18, 19, 20, 21] rfl (by as_aux_lemma => kernel_rfl) (by as_aux_lemma => kernel_rfl) (by as_aux_lemma => kernel_rfl) (by as_aux_lemma => kernel_rfl) (by as_aux_lemma => kernel_rfl) (by as_aux_lemma => kernel_rfl) (fun _ _ _ h => h) (Or.inl ⟨by rfl, (by intro W hSW; (try dsimp only at hSW); (try go_split_ands); go_simp <;> with_reducible rfl)⟩) hS0 ?_
          try simp only [Act.put, List.getElem_toArray, List.getElem_cons_succ, List.getElem_cons_zero, List.setIfInBounds_toArray, List.set_cons_zero, List.set_cons_succ]
          refine wpAnyU_take (i := 11) [13, 14, 15, 20, 21] rfl (by as_aux_lemma => kernel_rfl) (by as_aux_lemma => kernel_rfl) (by as_aux_lemma => kernel_rfl) (by as_aux_lemma => kernel_rfl) (by as_aux_lemma => kernel_rfl) (by as_aux_lemma => kernel_rfl) (fun _ _ _ h => h) (by first | exact Or.inl ⟨by rfl, (by intro W hSW; (try dsimp only at hSW); (try go_split_ands); go_simp <;> with_reducible rfl)⟩ | exact Or.inr ⟨by rfl, rfl⟩) hS0 ?_
          try simp only [Act.put, List.getElem_toArray, List.getElem_cons_succ, List.getElem_cons_zero, List.setIfInBounds_toArray, List.set_cons_zero, List.set_cons_succ]
          refine wpAnyU_take (i := 12) [13, 14, 15, 20, 21] rfl (by as_aux_lemma => kernel_rfl) (by as_aux_lemma => kernel_rfl) (by as_aux_lemma => kernel_rfl) (by as_aux_lemma => kernel_rfl) (by as_aux_lemma => kernel_rfl) (by as_aux_lemma => kernel_rfl) (fun _ _ _ h => h) (by first | exact Or.inl ⟨by rfl, (by intro W hSW; (try dsimp only at hSW); (try go_split_ands); go_simp <;> with_reducible rfl)⟩ | exact Or.inr ⟨by rfl, rfl⟩) hS0 ?_
          try simp only [Act.put, List.getElem_toArray, List.getElem_cons_succ, List.getElem_cons_zero, List.setIfInBounds_toArray, List.set_cons_zero, List.set_cons_succ]
          refine wpAnyU_take (i := 13) [14, 15, 20, 21] rfl (by as_aux_lemma => kernel_rfl) (by as_aux_lemma => kernel_rfl) (by as_aux_lemma => kernel_rfl) (by as_aux_lemma => kernel_rfl) (by as_aux_lemma => kernel_rfl) (by as_aux_lemma => kernel_rfl) (fun _ _ _ h => h) (by first | exact Or.inl ⟨by rfl, (by intro W hSW; (try dsimp only at hSW); (try go_split_ands); go_simp <;> with_reducible rfl)⟩ | exact Or.inr ⟨by rfl, rfl⟩) hS0 ?_
          try simp only [Act.put, List.getElem_toArray, List.getElem_cons_succ, List.getElem_cons_zero, List.setIfInBounds_toArray, List.set_cons_zero, List.set_cons_succ]
          refine wpAnyU_take (i := 14) [15, 20, 21] rfl (by as_aux_lemma => kernel_rfl) (by as_aux_lemma => kernel_rfl) (by as_aux_lemma => kernel_rfl) (by as_aux_lemma => kernel_rfl) (by as_aux_lemma => kernel_rfl) (by as_aux_lemma => kernel_rfl) (fun _ _ _ h => h) (by first | exact Or.inl ⟨by rfl, (by intro W hSW; (try dsimp only at hSW); (try go_split_ands); go_simp <;> with_reducible rfl)⟩ | exact Or.inr ⟨by rfl, rfl⟩) hS0 ?_
          try simp only [Act.put, List.getElem_toArray, List.getElem_cons_succ, List.getElem_cons_zero, List.setIfInBounds_toArray, List.set_cons_zero, List.set_cons_succ]
          refine wpAnyU_take (i := 15) [20, 21] rfl (by as_aux_lemma => kernel_rfl) (by as_aux_lemma => kernel_rfl) (by as_aux_lemma => kernel_rfl) (by as_aux_lemma => kernel_rfl) (by as_aux_lemma => kernel_rfl) (by as_aux_lemma => kernel_rfl) (fun _ _ _ h => h) (by first | exact Or.inl ⟨by rfl, (by intro W hSW; (try dsimp only at hSW); (try go_split_ands); go_simp <;> with_reducible rfl)⟩ | exact Or.inr ⟨by rfl, rfl⟩) hS0 ?_
          try simp only [Act.put, List.getElem_toArray, List.getElem_cons_succ, List.getElem_cons_zero, List.setIfInBounds_toArray, List.set_cons_zero, List.set_cons_succ]
          refine wpAnyU_take (i := 16) [18, 19, 20, 21] rfl (by as_aux_lemma => kernel_rfl) (by as_aux_lemma => kernel_rfl) (by as_aux_lemma => kernel_rfl) (by as_aux_lemma => kernel_rfl) (by as_aux_lemma => kernel_rfl) (by as_aux_lemma => kernel_rfl) (fun _ _ _ h => h) (by first | exact Or.inl ⟨by rfl, (by intro W hSW; (try dsimp only at hSW); (try go_split_ands); go_simp <;> with_reducible rfl)⟩ | exact Or.inr ⟨by rfl, rfl⟩) hS0 ?_
          try simp only [Act.put, List.getElem_toArray, List.getElem_cons_succ, List.getElem_cons_zero, List.setIfInBounds_toArray, List.set_cons_zero, List.set_cons_succ]
          refine wpAnyU_take (i := 17) [18, 19, 20, 21] rfl (by as_aux_lemma => kernel_rfl) (by as_aux_lemma => kernel_rfl) (by as_aux_lemma => kernel_rfl) (by as_aux_lemma => kernel_rfl) (by as_aux_lemma => kernel_rfl) (by as_aux_lemma => kernel_rfl) (fun _ _ _ h => h) (by first | exact Or.inl ⟨by rfl, (by intro W hSW; (try dsimp only at hSW); (try go_split_ands); go_simp <;> with_reducible rfl)⟩ | exact Or.inr ⟨by rfl, rfl⟩) hS0 ?_
          try simp only [Act.put, List.getElem_toArray, List.getElem_cons_succ, List.getElem_cons_zero, List.setIfInBounds_toArray, List.set_cons_zero, List.set_cons_succ]
          refine wpAnyU_take (i := 18) [19, 20, 21] rfl (by as_aux_lemma => kernel_rfl) (by as_aux_lemma => kernel_rfl) (by as_aux_lemma => kernel_rfl) (by as_aux_lemma => kernel_rfl) (by as_aux_lemma => kernel_rfl) (by as_aux_lemma => kernel_rfl) (fun _ _ _ h => h) (by first | exact Or.inl ⟨by rfl, (by intro W hSW; (try dsimp only at hSW); (try go_split_ands); go_simp <;> with_reducible rfl)⟩ | exact Or.inr ⟨by rfl, rfl⟩) hS0 ?_
          try simp only [Act.put, List.getElem_toArray, List.getElem_cons_succ, List.getElem_cons_zero, List.setIfInBounds_toArray, List.set_cons_zero, List.set_cons_succ]
          refine wpAnyU_take (i := 19) [20, 21] rfl (by as_aux_lemma => kernel_rfl) (by as_aux_lemma => kernel_rfl) (by as_aux_lemma => kernel_rfl) (by as_aux_lemma => kernel_rfl) (by as_aux_lemma => kernel_rfl) (by as_aux_lemma => kernel_rfl) (fun _ _ _ h => h) (by first | exact Or.inl ⟨by rfl, (by intro W hSW; (try dsimp only at hSW); (try go_split_ands); go_simp <;> with_reducible rfl)⟩ | exact Or.inr ⟨by rfl, rfl⟩) hS0 ?_
          try simp only [Act.put, List.getElem_toArray, List.getElem_cons_succ, List.getElem_cons_zero, List.setIfInBounds_toArray, List.set_cons_zero, List.set_cons_succ]
          refine wpAnyU_take (i := 20) [21] rfl (by as_aux_lemma => kernel_rfl) (by as_aux_lemma => kernel_rfl) (by as_aux_lemma => kernel_rfl) (by as_aux_lemma => kernel_rfl) (by as_aux_lemma => kernel_rfl) (by as_aux_lemma => kernel_rfl) (fun _ _ _ h => h) (by first | exact Or.inl ⟨by rfl, (by intro W hSW; (try dsimp only at hSW); (try go_split_ands); go_simp <;> with_reducible rfl)⟩ | exact Or.inr ⟨by rfl, rfl⟩) hS0 ?_
          try simp only [Act.put, List.getElem_toArray, List.getElem_cons_succ, List.getElem_cons_zero, List.setIfInBounds_toArray, List.set_cons_zero, List.set_cons_succ]
          refine wpAnyU_take (i := 21) [] rfl (by as_aux_lemma => kernel_rfl) (by as_aux_lemma => kernel_rfl) (by as_aux_lemma => kernel_rfl) (by as_aux_lemma => kernel_rfl) (by as_aux_lemma => kernel_rfl) (by as_aux_lemma => kernel_rfl) (fun _ _ _ h => h) (Or.inl ⟨by rfl, (by intro W hSW; (try dsimp only at hSW); (try go_split_ands); go_simp <;> with_reducible rfl)⟩) hS0 ?_
          try simp only [Act.put, List.getElem_toArray, List.getElem_cons_succ, List.getElem_cons_zero, List.setIfInBounds_toArray, List.set_cons_zero, List.set_cons_succ]
          refine wpAnyU_done (by kernel_rfl) ?_ _
          clear hS0
          go_wp2
          go_roundw
          case rel => exact ⟨k + 1, by rw [HWK.out], HK.out.2, HK.out.1⟩
          case measure => exact meas_up HWK.out HK.out.2
        · have hkk : ¬ (k : Int) < (m : Int) := by omega
          have hR6 := H5.out.1.below hbk
          have hwa := (HX.out.1.below hR6.bl).waits xo
          have HWA := Lib.hid hwa
          have H6 := Lib.hid hR6
          clear hR6 hwa hkl hkm hbk
          go_wp2_with fail
          refine HWA.out.mono ?_
          rintro e w7 ⟨gs, gm, gw, rfl, hb7, hgw⟩
          have hsame := waits_same HX.out.2.2.2.1 HX.out.2.2.2.2.2.1 hgw
          obtain ⟨b, hb⟩ : ∃ b, w7.heap.size = b := ⟨_, rfl⟩
          obtain ⟨w8, hw8⟩ : ∃ w8, w7.alloc (.cells #[.string ⟨#[]⟩, .int .i64 0] 33) = w8 := ⟨_, rfl⟩
          have k8b : w8.heap[b]? = some (.cells #[.string ⟨#[]⟩, .int .i64 0] 33 (0, 0)) := by rw [← hw8, ← hb]; exact heap_alloc_new w7 _
          have hbA : Below w7.heap.size w7 w8 := by rw [← hw8]; exact (Below.refl _ _).alloc (Nat.le_refl _) _
          obtain ⟨w9, hw9⟩ : ∃ w9, w8.setRow b #[.string gs, .int .i64 gm] = w9 := ⟨_, rfl⟩
          have k9b : w9.heap[b]? = some (.cells #[.string gs, .int .i64 gm] 33 (0, 0)) := by rw [← hw9]; exact setRow_heap w8 _ _ _ _ _ k8b
          have hb9 : Below w7.heap.size w7 w9 := ⟨by rw [← hw9]; exact hbA.os, by rw [← hw9]; exact hbA.tape, by rw [← hw9]; exact hbA.output, by rw [← hw9, setRow_size]; exact hbA.size, fun j hj => by rw [← hw9, setRow_otherL _ _ _ _ (by omega)]; exact hbA.block j hj⟩
          have hR9 := (H6.out.below hb7).below hb9
          have hrw := r14_waits w9 _ X (HX.out.2.2.1.below hR9.bl) (by have := HX.out.2.2.2.2.1.ln; omega) (fun z hz => by have := tot_mem hz; have := HX.out.2.2.2.2.1.tt; omega) xo
          rw [hsame] at hrw
          have HRW := Lib.hid hrw
          have K8 := Lib.hid k8b
          have H9 := Lib.hid (And.intro hR9 k9b)
          clear hb7 hgw hsame k8b hbA k9b hb9 hR9 hrw HWA
          go_wp2_with (first | (refine wpList_store_row rfl _ _ _ rfl b _ rfl rfl _ _ K8.out (by kernel_rfl) rfl (by simp [Value.oneCell']) ?_; rw [hw9]) | (refine wpList_load_row rfl _ _ rfl w.heap.size rfl _ _ (0, 0) _ H9.out.1.bx Try.underlying51 rfl infoT ?_) | fail)
          clear hb hw8 hw9
          refine HRW.out.mono ?_
          rintro e w10 ⟨rfl, hb10⟩
          have hR10 := H9.out.1.below hb10
          have hvi := (HX.out.1.below hR10.bl).victim (by have := HX.out.2.1; omega) xo
          have HVI := Lib.hid hvi
          have H10 := Lib.hid (And.intro hR10 ((hb10.block b (lt_of_block H9.out.2)).trans H9.out.2))
          clear hb10 hR10 hvi HRW H9 K8
          go_wp2_with fail
          refine HVI.out.mono ?_
          rintro e w11 ⟨vv, vb, rfl, hb11, hvic⟩
          have hR11 := H10.out.1.below hb11
          have hrv := r14_victim w11 _ X A (HX.out.2.2.1.below hR11.bl) HX.out.2.2.2.1 HX.out.2.2.2.2.2.1 HX.out.2.2.2.2.1 xo
          have HRV := Lib.hid hrv
          have H11 := Lib.hid (And.intro hR11 (And.intro ((hb11.block b (lt_of_block H10.out.2)).trans H10.out.2) hvic))
          clear hb11 hR11 hrv hvic HVI H10
          go_wp2_with (first | (refine wpList_load_row rfl _ _ rfl w.heap.size rfl _ _ (0, 0) _ H11.out.1.bx Try.underlying51 rfl infoT ?_) | fail)
          refine HRV.out.mono ?_
          rintro e w12 ⟨vv2, vb2, rfl, hb12, hvic2⟩
          obtain ⟨rfl, rfl⟩ := H11.out.2.2.uniq hvic2
          have hbd : Below w12.heap.size w12 w12.drew := below_drewN (Below.refl _ _) 1
          have hR12 := (H11.out.1.below hb12).below hbd
          have k12 := (hbd.block b (lt_of_block ((hb12.block b (lt_of_block H11.out.2.1)).trans H11.out.2.1))).trans ((hb12.block b (lt_of_block H11.out.2.1)).trans H11.out.2.1)
          have hqa := (HX.out.1.below hR12.bl).queue (by have := HX.out.2.1; omega) xs
          have HQA := Lib.hid hqa
          have hS0 : w12.drew.cell? ⟨b, 0, none⟩ = some (.string gs) ∧ w12.drew.cell? ⟨b, 1, none⟩ = some (.int .i64 gm) ∧ w12.drew.cell? ⟨g, off + i * 4 + 2, none⟩ = some (.string xs) ∧ w12.drew.cell? ⟨w.heap.size, 0, none⟩ = some (.slice ma mn mc) :=
            ⟨cell_of_row _ _ 0 _ _ _ k12, cell_of_row _ _ 1 _ _ _ k12, (HC.out _ hR12.bl).2, cell_of_row _ _ 0 _ _ _ hR12.bx⟩
          have hgg : (gs.toList == gs.toList) = true := by simp
          have hgm : (gm == gm) = true := by simp
          have H12 := Lib.hid (And.intro hR12 k12)
          clear hbd hR12 k12 hqa hb12 hvic2 HRV H11
          go_upto_region 18 with (fail)
          refine wp_region_U (fun W => W.cell? ⟨b, 0, none⟩ = some (.string gs) ∧ W.cell? ⟨b, 1, none⟩ = some (.int .i64 gm) ∧ W.cell? ⟨g, off + i * 4 + 2, none⟩ = some (.string xs) ∧ W.cell? ⟨w.heap.size, 0, none⟩ = some (.slice ma mn mc)) [] (by kernel_rfl) ?_
          refine wpAnyU_take (i := 0) [2, 3, 4, 5, 6, 7, 8, 9, 10, 11, 12, 13, 14, 15, 16, 17, 18, 19, 20, 21, 22, 23, 24, 25, 26, 27, 28, 29, 30, 31, 32, 33, 34, 35, 36, 37, 38, 39, 40, 41, 42] rfl (by as_aux_lemma => kernel_rfl) (by as_aux_lemma => kernel_rfl) (by as_aux_lemma => kernel_rfl) (by as_aux_lemma => kernel_rfl) (by as_aux_lemma => kernel_rfl) (by as_aux_lemma => kernel_rfl) (fun _ _ _ h => h) (Or.inl ⟨by rfl, (by intro W hSW; (try dsimp only at hSW); (try go_split_ands); go_simp <;> with_reducible rfl)⟩) hS0 ?_
          try simp only [Act.put, List.getElem_toArray, List.getElem_cons_succ, List.getElem_cons_zero, List.setIfInBounds_toArray, List.set_cons_zero, List.set_cons_succ]
          refine wpAnyU_take (i := 1) [2, 3, 4, 5, 6, 7, 8, 9, 10, 11, 12, 13, 14, 15, 16, 17, 18, 19, 20, 21, 22, 23, 24, 25, 26, 27, 28, 29, 30, 31, 32, 33, 34, 35, 36, 37, 38, 39, 40, 41, 42] rfl (by as_aux_lemma => kernel_rfl) (by as_aux_lemma => kernel_rfl) (by as_aux_lemma => kernel_rfl) (by as_aux_lemma => kernel_rfl) (by as_aux_lemma => kernel_rfl) (by as_aux_lemma => kernel_rfl) (fun _ _ _ h => h) (Or.inl ⟨by rfl, (by intro W hSW; (try dsimp only at hSW); (try go_split_ands); go_simp <;> with_reducible rfl)⟩) hS0 ?_
          try simp only [Act.put, List.getElem_toArray, List.getElem_cons_succ, List.getElem_cons_zero, List.setIfInBounds_toArray, List.set_cons_zero, List.set_cons_succ]
          refine wpAnyU_take (i := 2) [3, 4, 5, 6, 7, 8, 9, 10, 11, 12, 13, 14, 15, 16, 17, 18, 19, 20, 21, 22, 23, 24, 25, 26, 27, 28, 29, 30, 31, 32, 33, 34, 35, 36, 37, 38, 39, 40, 41, 42] rfl (by as_aux_lemma => kernel_rfl) (by as_aux_lemma => kernel_rfl) (by as_aux_lemma => kernel_rfl) (by as_aux_lemma => kernel_rfl) (by as_aux_lemma => kernel_rfl) (by as_aux_lemma => kernel_rfl) (fun _ _ _ h => h) (Or.inl ⟨by rfl, (by intro W hSW; (try dsimp only at hSW); (try go_split_ands); go_simp <;> with_reducible rfl)⟩) hS0 ?_
          try simp only [Act.put, List.getElem_toArray, List.getElem_cons_succ, List.getElem_cons_zero, List.setIfInBounds_toArray, List.set_cons_zero, List.set_cons_succ]
          refine wpAnyU_take (i := 3) [4, 5, 6, 7, 8, 9, 10, 11, 12, 13, 14, 15, 16, 17, 18, 19, 20, 21, 22, 23, 24, 25, 26, 27, 28, 29, 30, 31, 32, 33, 34, 35, 36, 37, 38, 39, 40, 41, 42] rfl (by as_aux_lemma => kernel_rfl) (by as_aux_lemma => kernel_rfl) (by as_aux_lemma => kernel_rfl) (by as_aux_lemma => kernel_rfl) (by as_aux_lemma => kernel_rfl) (by as_aux_lemma => kernel_rfl) (fun _ _ _ h => h) (Or.inl ⟨by rfl, (by intro W hSW; (try dsimp only at hSW); (try go_split_ands); go_simp <;> with_reducible rfl)⟩) hS0 ?_
          try simp only [Act.put, List.getElem_toArray, List.getElem_cons_succ, List.getElem_cons_zero, List.setIfInBounds_toArray, List.set_cons_zero, List.set_cons_succ]
          refine wpAnyU_take (i := 4) [5, 7, 8, 9, 10, 11, 12, 13, 14, 15, 16, 17, 18, 19, 20, 21, 22, 23, 24, 25, 26, 27, 28, 29, 30, 31, 32, 33, 34, 35, 36, 37, 38, 39, 40, 41, 42] rfl (by as_aux_lemma => kernel_rfl) (by as_aux_lemma => kernel_rfl) (by as_aux_lemma => kernel_rfl) (by as_aux_lemma => kernel_rfl) (by as_aux_lemma => kernel_rfl) (by as_aux_lemma => kernel_rfl) (fun _ _ _ h => h) (by first | exact Or.inl ⟨by rfl, (by intro W hSW; (try dsimp only at hSW); (try go_split_ands); go_simp <;> with_reducible rfl)⟩ | exact Or.inr ⟨by rfl, rfl⟩) hS0 ?_
          try simp only [Act.put, List.getElem_toArray, List.getElem_cons_succ, List.getElem_cons_zero, List.setIfInBounds_toArray, List.set_cons_zero, List.set_cons_succ]
          refine wpAnyU_take (i := 5) [7, 8, 9, 10, 11, 12, 13, 14, 15, 16, 17, 18, 19, 20, 21, 22, 23, 24, 25, 26, 27, 28, 29, 30, 31, 32, 33, 34, 35, 36, 37, 38, 39, 40, 41, 42] rfl (by as_aux_lemma => kernel_rfl) (by as_aux_lemma => kernel_rfl) (by as_aux_lemma => kernel_rfl) (by as_aux_lemma => kernel_rfl) (by as_aux_lemma => kernel_rfl) (by as_aux_lemma => kernel_rfl) (fun _ _ _ h => h) (by first | exact Or.inl ⟨by rfl, (by intro W hSW; (try dsimp only at hSW); (try go_split_ands); go_simp <;> with_reducible rfl)⟩ | exact Or.inr ⟨by rfl, rfl⟩) hS0 ?_
          try simp only [Act.put, List.getElem_toArray, List.getElem_cons_succ, List.getElem_cons_zero, List.setIfInBounds_toArray, List.set_cons_zero, List.set_cons_succ]
          refine wpAnyU_take (i := 6) [7, 8, 9, 10, 11, 12, 13, 14, 15, 16, 17, 18, 19, 20, 21, 22, 23, 24, 25, 26, 27, 28, 29, 30, 31, 32, 33, 34, 35, 36, 37, 38, 39, 40, 41, 42] rfl (by as_aux_lemma => kernel_rfl) (by as_aux_lemma => kernel_rfl) (by as_aux_lemma => kernel_rfl) (by as_aux_lemma => kernel_rfl) (by as_aux_lemma => kernel_rfl) (by as_aux_lemma => kernel_rfl) (fun _ _ _ h => h) (by first | exact Or.inl ⟨by rfl, (by intro W hSW; (try dsimp only at hSW); (try go_split_ands); go_simp <;> with_reducible rfl)⟩ | exact Or.inr ⟨by rfl, rfl⟩) hS0 ?_
          try simp only [Act.put, List.getElem_toArray, List.getElem_cons_succ, List.getElem_cons_zero, List.setIfInBounds_toArray, List.set_cons_zero, List.set_cons_succ]
          refine wpAnyU_take (i := 7) [8, 9, 10, 11, 12, 13, 14, 15, 16, 17, 18, 19, 20, 21, 22, 23, 24, 25, 26, 27, 28, 29, 30, 31, 32, 33, 34, 35, 36, 37, 38, 39, 40, 41, 42] rfl (by as_aux_lemma => kernel_rfl) (by as_aux_lemma => kernel_rfl) (by as_aux_lemma => kernel_rfl) (by as_aux_lemma => kernel_rfl) (by as_aux_lemma => kernel_rfl) (by as_aux_lemma => kernel_rfl) (fun _ _ _ h => h) (by first | exact Or.inl ⟨by rfl, (by intro W hSW; (try dsimp only at hSW); (try go_split_ands); go_simp <;> with_reducible rfl)⟩ | exact Or.inr ⟨by rfl, rfl⟩) hS0 ?_
          try simp only [Act.put, List.getElem_toArray, List.getElem_cons_succ, List.getElem_cons_zero, List.setIfInBounds_toArray, List.set_cons_zero, List.set_cons_succ]
          refine wpAnyU_take (i := 8) [9, 10, 11, 12, 13, 14, 15, 16, 17, 18, 19, 20, 21, 22, 23, 24, 25, 26, 27, 28, 29, 30, 31, 32, 33, 34, 35, 36, 37, 38, 39, 40, 41, 42] rfl (by as_aux_lemma => kernel_rfl) (by as_aux_lemma => kernel_rfl) (by as_aux_lemma => kernel_rfl) (by as_aux_lemma => kernel_rfl) (by as_aux_lemma => kernel_rfl) (by as_aux_lemma => kernel_rfl) (fun _ _ _ h => h) (Or.inl ⟨by rfl, (by intro W hSW; (try dsimp only at hSW); (try go_split_ands); go_simp <;> with_reducible rfl)⟩) hS0 ?_
          try simp only [Act.put, List.getElem_toArray, List.getElem_cons_succ, List.getElem_cons_zero, List.setIfInBounds_toArray, List.set_cons_zero, List.set_cons_succ]
          refine wpAnyU_take (i := 9) [10, 11, 12, 13, 14, 15, 16, 17, 18, 19, 20, 21, 22, 23, 24, 25, 26, 27, 28, 29, 30, 31, 32, 33, 34, 35, 36, 37, 38, 39, 40, 41, 42] rfl (by as_aux_lemma => kernel_rfl) (by as_aux_lemma => kernel_rfl) (by as_aux_lemma => kernel_rfl) (by as_aux_lemma => kernel_rfl) (by as_aux_lemma => kernel_rfl) (by as_aux_lemma => kernel_rfl) (fun _ _ _ h => h) (Or.inl ⟨by rfl, (by intro W hSW; (try dsimp only at hSW); (try go_split_ands); go_simp <;> with_reducible rfl)⟩) hS0 ?_
          try simp only [Act.put, List.getElem_toArray, List.getElem_cons_succ, List.getElem_cons_zero, List.setIfInBounds_toArray, List.set_cons_zero, List.set_cons_succ]
          refine wpAnyU_take (i := 10) [11, 13, 14, 15, 16, 17, 18, 19, 20, 21, 22, 23, 24, 25, 26, 27, 28, 29, 30, 31, 32, 33, 34, 35, 36, 37, 38, 39, 40, 41, 42] rfl (by as_aux_lemma => kernel_rfl) (by as_aux_lemma => kernel_rfl) (by as_aux_lemma => kernel_rfl) (by as_aux_lemma => kernel_rfl) (by as_aux_lemma => kernel_rfl) (by as_aux_lemma => kernel_rfl) (fun _ _ _ h => h) (by first | exact Or.inl ⟨by rfl, (by intro W hSW; (try dsimp only at hSW); (try go_split_ands); go_simp <;> with_reducible rfl)⟩ | exact Or.inr ⟨by rfl, rfl⟩) hS0 ?_
          try simp only [Act.put, List.getElem_toArray, List.getElem_cons_succ, List.getElem_cons_zero, List.setIfInBounds_toArray, List.set_cons_zero, List.set_cons_succ]
          refine wpAnyU_take (i := 11) [13, 14, 15, 16, 17, 18, 19, 20, 21, 22, 23, 24, 25, 26, 27, 28, 29, 30, 31, 32, 33, 34, 35, 36, 37, 38, 39, 40, 41, 42] rfl (by as_aux_lemma => kernel_rfl) (by as_aux_lemma => kernel_rfl) (by as_aux_lemma => kernel_rfl) (by as_aux_lemma => kernel_rfl) (by as_aux_lemma => kernel_rfl) (by as_aux_lemma => kernel_rfl) (fun _ _ _ h => h) (by first | exact Or.inl ⟨by rfl, (by intro W hSW; (try dsimp only at hSW); (try go_split_ands); go_simp <;> with_reducible rfl)⟩ | exact Or.inr ⟨by rfl, rfl⟩) hS0 ?_
          try simp only [Act.put, List.getElem_toArray, List.getElem_cons_succ, List.getElem_cons_zero, List.setIfInBounds_toArray, List.set_cons_zero, List.set_cons_succ]
          refine wpAnyU_take (i := 12) [13, 14, 15, 16, 17, 18, 19, 20, 21, 22, 23, 24, 25, 26, 27, 28, 29, 30, 31, 32, 33, 34, 35, 36, 37, 38, 39, 40, 41, 42] rfl (by as_aux_lemma => kernel_rfl) (by as_aux_lemma => kernel_rfl) (by as_aux_lemma => kernel_rfl) (by as_aux_lemma => kernel_rfl) (by as_aux_lemma => kernel_rfl) (by as_aux_lemma => kernel_rfl) (fun _ _ _ h => h) (by first | exact Or.inl ⟨by rfl, (by intro W hSW; (try dsimp only at hSW); (try go_split_ands); go_simp <;> with_reducible rfl)⟩ | exact Or.inr ⟨by rfl, rfl⟩) hS0 ?_
          try simp only [Act.put, List.getElem_toArray, List.getElem_cons_succ, List.getElem_cons_zero, List.setIfInBounds_toArray, List.set_cons_zero, List.set_cons_succ]
          refine wpAnyU_take (i := 13) [14, 15, 16, 17, 18, 19, 20, 21, 22, 23, 24, 25, 26, 27, 28, 29, 30, 31, 32, 33, 34, 35, 36, 37, 38, 39, 40, 41, 42] rfl (by as_aux_lemma => kernel_rfl) (by as_aux_lemma => kernel_rfl) (by as_aux_lemma => kernel_rfl) (by as_aux_lemma => kernel_rfl) (by as_aux_lemma => kernel_rfl) (by as_aux_lemma => kernel_rfl) (fun _ _ _ h => h) (by first | exact Or.inl ⟨by rfl, (by intro W hSW; (try dsimp only at hSW); (try go_split_ands); go_simp <;> with_reducible rfl)⟩ | exact Or.inr ⟨by rfl, rfl⟩) hS0 ?_
          try simp only [Act.put, List.getElem_toArray, List.getElem_cons_succ, List.getElem_cons_zero, List.setIfInBounds_toArray, List.set_cons_zero, List.set_cons_succ]
          refine wpAnyU_take (i := 14) [15, 16, 17, 18, 19, 20, 21, 22, 23, 24, 25, 26, 27, 28, 29, 30, 31, 32, 33, 34, 35, 36, 37, 38, 39, 40, 41, 42] rfl (by as_aux_lemma => kernel_rfl) (by as_aux_lemma => kernel_rfl) (by as_aux_lemma => kernel_rfl) (by as_aux_lemma => kernel_rfl) (by as_aux_lemma => kernel_rfl) (by as_aux_lemma => kernel_rfl) (fun _ _ _ h => h) (Or.inl ⟨by rfl, (by intro W hSW; (try dsimp only at hSW); (try go_split_ands); go_simp <;> with_reducible rfl)⟩) hS0 ?_
          try simp only [Act.put, List.getElem_toArray, List.getElem_cons_succ, List.getElem_cons_zero, List.setIfInBounds_toArray, List.set_cons_zero, List.set_cons_succ]
          refine wpAnyU_take (i := 15) [16, 17, 18, 19, 20, 21, 22, 23, 24, 25, 26, 27, 28, 29, 30, 31, 32, 33, 34, 35, 36, 37, 38, 39, 40, 41, 42] rfl (by as_aux_lemma => kernel_rfl) (by as_aux_lemma => kernel_rfl) (by as_aux_lemma => kernel_rfl) (by as_aux_lemma => kernel_rfl) (by as_aux_lemma => kernel_rfl) (by as_aux_lemma => kernel_rfl) (fun _ _ _ h => h) (Or.inl ⟨by rfl, (by intro W hSW; (try dsimp only at hSW); (try go_split_ands); go_simp <;> with_reducible rfl)⟩) hS0 ?_
          try simp only [Act.put, List.getElem_toArray, List.getElem_cons_succ, List.getElem_cons_zero, List.setIfInBounds_toArray, List.set_cons_zero, List.set_cons_succ]
          refine wpAnyU_take (i := 16) [18, 19, 20, 21, 22, 23, 24, 25, 26, 27, 28, 29, 30, 31, 32, 33, 34, 35, 36, 37, 38, 39, 40, 41, 42] rfl (by as_aux_lemma => kernel_rfl) (by as_aux_lemma => kernel_rfl) (by as_aux_lemma => kernel_rfl) (by as_aux_lemma => kernel_rfl) (by as_aux_lemma => kernel_rfl) (by as_aux_lemma => kernel_rfl) (fun _ _ _ h => h) (by first | exact Or.inl ⟨by rfl, (by intro W hSW; (try dsimp only at hSW); (try go_split_ands); go_simp <;> with_reducible rfl)⟩ | exact Or.inr ⟨by rfl, rfl⟩) hS0 ?_
          try simp only [Act.put, List.getElem_toArray, List.getElem_cons_succ, List.getElem_cons_zero, List.setIfInBounds_toArray, List.set_cons_zero, List.set_cons_succ]
          refine wpAnyU_take (i := 17) [18, 19, 20, 21, 22, 23, 24, 25, 26, 27, 28, 29, 30, 31, 32, 33, 34, 35, 36, 37, 38, 39, 40, 41, 42] rfl (by as_aux_lemma => kernel_rfl) (by as_aux_lemma => kernel_rfl) (by as_aux_lemma => kernel_rfl) (by as_aux_lemma => kernel_rfl) (by as_aux_lemma => kernel_rfl) (by as_aux_lemma => kernel_rfl) (fun _ _ _ h => h) (by first | exact Or.inl ⟨by rfl, (by intro W hSW; (try dsimp only at hSW); (try go_split_ands); go_simp <;> with_reducible rfl)⟩ | exact Or.inr ⟨by rfl, rfl⟩) hS0 ?_
          try simp only [Act.put, List.getElem_toArray, List.getElem_cons_succ, List.getElem_cons_zero, List.setIfInBounds_toArray, List.set_cons_zero, List.set_cons_succ]
          refine wpAnyU_take (i := 18) [19, 20, 21, 22, 23, 24, 25, 26, 27, 28, 29, 30, 31, 32, 33, 34, 35, 36, 37, 38, 39, 40, 41, 42] rfl (by as_aux_lemma => kernel_rfl) (by as_aux_lemma => kernel_rfl) (by as_aux_lemma => kernel_rfl) (by as_aux_lemma => kernel_rfl) (by as_aux_lemma => kernel_rfl) (by as_aux_lemma => kernel_rfl) (fun _ _ _ h => h) (by first | exact Or.inl ⟨by rfl, (by intro W hSW; (try dsimp only at hSW); (try go_split_ands); go_simp <;> with_reducible rfl)⟩ | exact Or.inr ⟨by rfl, rfl⟩) hS0 ?_
          try simp only [Act.put, List.getElem_toArray, List.getElem_cons_succ, List.getElem_cons_zero, List.setIfInBounds_toArray, List.set_cons_zero, List.set_cons_succ]
          refine wpAnyU_take (i := 19) [20, 21, 22, 23, 24, 25, 26, 27, 28, 29, 30, 31, 32, 33, 34, 35, 36, 37, 38, 39, 40, 41, 42] rfl (by as_aux_lemma => kernel_rfl) (by as_aux_lemma => kernel_rfl) (by as_aux_lemma => kernel_rfl) (by as_aux_lemma => kernel_rfl) (by as_aux_lemma => kernel_rfl) (by as_aux_lemma => kernel_rfl) (fun _ _ _ h => h) (Or.inl ⟨by rfl, (by intro W hSW; (try dsimp only at hSW); (try go_split_ands); go_simp <;> with_reducible rfl)⟩) hS0 ?_
          try simp only [Act.put, List.getElem_toArray, List.getElem_cons_succ, List.getElem_cons_zero, List.setIfInBounds_toArray, List.set_cons_zero, List.set_cons_succ]
          refine wpAnyU_take (i := 20) [21, 22, 23, 24, 25, 26, 27, 28, 29, 30, 31, 32, 33, 34, 35, 36, 37, 38, 39, 40, 41, 42] rfl (by as_aux_lemma => kernel_rfl) (by as_aux_lemma => kernel_rfl) (by as_aux_lemma => kernel_rfl) (by as_aux_lemma => kernel_rfl) (by as_aux_lemma => kernel_rfl) (by as_aux_lemma => kernel_rfl) (fun _ _ _ h => h) (Or.inl ⟨by rfl, (by intro W hSW; (try dsimp only at hSW); (try go_split_ands); go_simp <;> with_reducible rfl)⟩) hS0 ?_
          try simp only [Act.put, List.getElem_toArray, List.getElem_cons_succ, List.getElem_cons_zero, List.setIfInBounds_toArray, List.set_cons_zero, List.set_cons_succ]
          refine wpAnyU_take (i := 21) [23, 24, 25, 26, 27, 28, 29, 30, 31, 32, 33, 34, 35, 36, 37, 38, 39, 40, 41, 42] rfl (by as_aux_lemma => kernel_rfl) (by as_aux_lemma => kernel_rfl) (by as_aux_lemma => kernel_rfl) (by as_aux_lemma => kernel_rfl) (by as_aux_lemma => kernel_rfl) (by as_aux_lemma => kernel_rfl) (fun _ _ _ h => h) (by first | exact Or.inl ⟨by rfl, (by intro W hSW; (try dsimp only at hSW); (try go_split_ands); go_simp <;> with_reducible rfl)⟩ | exact Or.inr ⟨by rfl, rfl⟩) hS0 ?_
          try simp only [Act.put, List.getElem_toArray, List.getElem_cons_succ, List.getElem_cons_zero, List.setIfInBounds_toArray, List.set_cons_zero, List.set_cons_succ]
          refine wpAnyU_take (i := 22) [23, 24, 25, 26, 27, 28, 29, 30, 31, 32, 33, 34, 35, 36, 37, 38, 39, 40, 41, 42] rfl (by as_aux_lemma => kernel_rfl) (by as_aux_lemma => kernel_rfl) (by as_aux_lemma => kernel_rfl) (by as_aux_lemma => kernel_rfl) (by as_aux_lemma => kernel_rfl) (by as_aux_lemma => kernel_rfl) (fun _ _ _ h => h) (by first | exact Or.inl ⟨by rfl, (by intro W hSW; (try dsimp only at hSW); (try go_split_ands); go_simp <;> with_reducible rfl)⟩ | exact Or.inr ⟨by rfl, rfl⟩) hS0 ?_
          try simp only [Act.put, List.getElem_toArray, List.getElem_cons_succ, List.getElem_cons_zero, List.setIfInBounds_toArray, List.set_cons_zero, List.set_cons_succ]
          refine wpAnyU_take (i := 23) [24, 25, 26, 27, 28, 29, 30, 31, 32, 33, 34, 35, 36, 37, 38, 39, 40, 41, 42] rfl (by as_aux_lemma => kernel_rfl) (by as_aux_lemma => kernel_rfl) (by as_aux_lemma => kernel_rfl) (by as_aux_lemma => kernel_rfl) (by as_aux_lemma => kernel_rfl) (by as_aux_lemma => kernel_rfl) (fun _ _ _ h => h) (by first | exact Or.inl ⟨by rfl, (by intro W hSW; (try dsimp only at hSW); (try go_split_ands); go_simp <;> with_reducible rfl)⟩ | exact Or.inr ⟨by rfl, rfl⟩) hS0 ?_
          try simp only [Act.put, List.getElem_toArray, List.getElem_cons_succ, List.getElem_cons_zero, List.setIfInBounds_toArray, List.set_cons_zero, List.set_cons_succ]
          refine wpAnyU_take (i := 24) [25, 26, 27, 28, 29, 30, 31, 32, 33, 34, 35, 36, 37, 38, 39, 40, 41, 42] rfl (by as_aux_lemma => kernel_rfl) (by as_aux_lemma => kernel_rfl) (by as_aux_lemma => kernel_rfl) (by as_aux_lemma => kernel_rfl) (by as_aux_lemma => kernel_rfl) (by as_aux_lemma => kernel_rfl) (fun _ _ _ h => h) (Or.inl ⟨by rfl, (by intro W hSW; (try dsimp only at hSW); (try go_split_ands); go_simp <;> with_reducible rfl)⟩) hS0 ?_
          try simp only [Act.put, List.getElem_toArray, List.getElem_cons_succ, List.getElem_cons_zero, List.setIfInBounds_toArray, List.set_cons_zero, List.set_cons_succ]
          refine wpAnyU_take (i := 25) [26, 27, 28, 29, 30, 31, 32, 33, 34, 35, 36, 37, 38, 39, 40, 41, 42] rfl (by as_aux_lemma => kernel_rfl) (by as_aux_lemma => kernel_rfl) (by as_aux_lemma => kernel_rfl) (by as_aux_lemma => kernel_rfl) (by as_aux_lemma => kernel_rfl) (by as_aux_lemma => kernel_rfl) (fun _ _ _ h => h) (Or.inl ⟨by rfl, (by intro W hSW; (try dsimp only at hSW); (try go_split_ands); go_simp <;> with_reducible rfl)⟩) hS0 ?_
          try simp only [Act.put, List.getElem_toArray, List.getElem_cons_succ, List.getElem_cons_zero, List.setIfInBounds_toArray, List.set_cons_zero, List.set_cons_succ]
          refine wpAnyU_take (i := 26) [32, 39, 40, 41, 42] rfl (by as_aux_lemma => kernel_rfl) (by as_aux_lemma => kernel_rfl) (by as_aux_lemma => kernel_rfl) (by as_aux_lemma => kernel_rfl) (by as_aux_lemma => kernel_rfl) (by as_aux_lemma => kernel_rfl) (fun _ _ _ h => h) (by first | exact Or.inl ⟨by rfl, (by intro W hSW; (try dsimp only at hSW); (try go_split_ands); go_simp <;> with_reducible rfl)⟩ | exact Or.inr ⟨by rfl, rfl⟩) hS0 ?_
          try simp only [Act.put, List.getElem_toArray, List.getElem_cons_succ, List.getElem_cons_zero, List.setIfInBounds_toArray, List.set_cons_zero, List.set_cons_succ]
          refine wpAnyU_take (i := 27) [29, 30, 31, 32, 39, 40, 41, 42] rfl (by as_aux_lemma => kernel_rfl) (by as_aux_lemma => kernel_rfl) (by as_aux_lemma => kernel_rfl) (by as_aux_lemma => kernel_rfl) (by as_aux_lemma => kernel_rfl) (by as_aux_lemma => kernel_rfl) (fun _ _ _ h => h) (by first | exact Or.inl ⟨by rfl, (by intro W hSW; (try dsimp only at hSW); (try go_split_ands); go_simp <;> with_reducible rfl)⟩ | exact Or.inr ⟨by rfl, rfl⟩) hS0 ?_
          try simp only [Act.put, List.getElem_toArray, List.getElem_cons_succ, List.getElem_cons_zero, List.setIfInBounds_toArray, List.set_cons_zero, List.set_cons_succ]
          refine wpAnyU_take (i := 28) [29, 30, 31, 32, 39, 40, 41, 42] rfl (by as_aux_lemma => kernel_rfl) (by as_aux_lemma => kernel_rfl) (by as_aux_lemma => kernel_rfl) (by as_aux_lemma => kernel_rfl) (by as_aux_lemma => kernel_rfl) (by as_aux_lemma => kernel_rfl) (fun _ _ _ h => h) (by first | exact Or.inl ⟨by rfl, (by intro W hSW; (try dsimp only at hSW); (try go_split_ands); go_simp <;> with_reducible rfl)⟩ | exact Or.inr ⟨by rfl, rfl⟩) hS0 ?_
          try simp only [Act.put, List.getElem_toArray, List.getElem_cons_succ, List.getElem_cons_zero, List.setIfInBounds_toArray, List.set_cons_zero, List.set_cons_succ]
          refine wpAnyU_take (i := 29) [30, 31, 32, 39, 40, 41, 42] rfl (by as_aux_lemma => kernel_rfl) (by as_aux_lemma => kernel_rfl) (by as_aux_lemma => kernel_rfl) (by as_aux_lemma => kernel_rfl) (by as_aux_lemma => kernel_rfl) (by as_aux_lemma => kernel_rfl) (fun _ _ _ h => h) (by first | exact Or.inl ⟨by rfl, (by intro W hSW; (try dsimp only at hSW); (try go_split_ands); go_simp <;> with_reducible rfl)⟩ | exact Or.inr ⟨by rfl, rfl⟩) hS0 ?_
          try simp only [Act.put, List.getElem_toArray, List.getElem_cons_succ, List.getElem_cons_zero, List.setIfInBounds_toArray, List.set_cons_zero, List.set_cons_succ]
          refine wpAnyU_take (i := 30) [31, 32, 39, 40, 41, 42] rfl (by as_aux_lemma => kernel_rfl) (by as_aux_lemma => kernel_rfl) (by as_aux_lemma => kernel_rfl) (by as_aux_lemma => kernel_rfl) (by as_aux_lemma => kernel_rfl) (by as_aux_lemma => kernel_rfl) (fun _ _ _ h => h) (by first | exact Or.inl ⟨by rfl, (by intro W hSW; (try dsimp only at hSW); (try go_split_ands); go_simp <;> with_reducible rfl)⟩ | exact Or.inr ⟨by rfl, rfl⟩) hS0 ?_
          try simp only [Act.put, List.getElem_toArray, List.getElem_cons_succ, List.getElem_cons_zero, List.setIfInBounds_toArray, List.set_cons_zero, List.set_cons_succ]
          refine wpAnyU_take (i := 31) [32, 39, 40, 41, 42] rfl (by as_aux_lemma => kernel_rfl) (by as_aux_lemma => kernel_rfl) (by as_aux_lemma => kernel_rfl) (by as_aux_lemma => kernel_rfl) (by as_aux_lemma => kernel_rfl) (by as_aux_lemma => kernel_rfl) (fun _ _ _ h => h) (by first | exact Or.inl ⟨by rfl, (by intro W hSW; (try dsimp only at hSW); (try go_split_ands); go_simp <;> with_reducible rfl)⟩ | exact Or.inr ⟨by rfl, rfl⟩) hS0 ?_
          try simp only [Act.put, List.getElem_toArray, List.getElem_cons_succ, List.getElem_cons_zero, List.setIfInBounds_toArray, List.set_cons_zero, List.set_cons_succ]
          refine wpAnyU_take (i := 33) [39, 40, 41, 42] rfl (by as_aux_lemma => kernel_rfl) (by as_aux_lemma => kernel_rfl) (by as_aux_lemma => kernel_rfl) (by as_aux_lemma => kernel_rfl) (by as_aux_lemma => kernel_rfl) (by as_aux_lemma => kernel_rfl) (fun _ _ _ h => h) (by first | exact Or.inl ⟨by rfl, (by intro W hSW; (try dsimp only at hSW); (try go_split_ands); go_simp <;> with_reducible rfl)⟩ | exact Or.inr ⟨by rfl, rfl⟩) hS0 ?_
          try simp only [Act.put, List.getElem_toArray, List.getElem_cons_succ, List.getElem_cons_zero, List.setIfInBounds_toArray, List.set_cons_zero, List.set_cons_succ]
          refine wpAnyU_take (i := 34) [36, 37, 38, 39, 40, 41, 42] rfl (by as_aux_lemma => kernel_rfl) (by as_aux_lemma => kernel_rfl) (by as_aux_lemma => kernel_rfl) (by as_aux_lemma => kernel_rfl) (by as_aux_lemma => kernel_rfl) (by as_aux_lemma => kernel_rfl) (fun _ _ _ h => h) (by first | exact Or.inl ⟨by rfl, (by intro W hSW; (try dsimp only at hSW); (try go_split_ands); go_simp <;> with_reducible rfl)⟩ | exact Or.inr ⟨by rfl, rfl⟩) hS0 ?_
          try simp only [Act.put, List.getElem_toArray, List.getElem_cons_succ, List.getElem_cons_zero, List.setIfInBounds_toArray, List.set_cons_zero, List.set_cons_succ]
          refine wpAnyU_take (i := 35) [36, 37, 38, 39, 40, 41, 42] rfl (by as_aux_lemma => kernel_rfl) (by as_aux_lemma => kernel_rfl) (by as_aux_lemma => kernel_rfl) (by as_aux_lemma => kernel_rfl) (by as_aux_lemma => kernel_rfl) (by as_aux_lemma => kernel_rfl) (fun _ _ _ h => h) (by first | exact Or.inl ⟨by rfl, (by intro W hSW; (try dsimp only at hSW); (try go_split_ands); go_simp <;> with_reducible rfl)⟩ | exact Or.inr ⟨by rfl, rfl⟩) hS0 ?_
          try simp only [Act.put, List.getElem_toArray, List.getElem_cons_succ, List.getElem_cons_zero, List.setIfInBounds_toArray, List.set_cons_zero, List.set_cons_succ]
          refine wpAnyU_take (i := 36) [37, 38, 39, 40, 41, 42] rfl (by as_aux_lemma => kernel_rfl) (by as_aux_lemma => kernel_rfl) (by as_aux_lemma => kernel_rfl) (by as_aux_lemma => kernel_rfl) (by as_aux_lemma => kernel_rfl) (by as_aux_lemma => kernel_rfl) (fun _ _ _ h => h) (by first | exact Or.inl ⟨by rfl, (by intro W hSW; (try dsimp only at hSW); (try go_split_ands); go_simp <;> with_reducible rfl)⟩ | exact Or.inr ⟨by rfl, rfl⟩) hS0 ?_
          try simp only [Act.put, List.getElem_toArray, List.getElem_cons_succ, List.getElem_cons_zero, List.setIfInBounds_toArray, List.set_cons_zero, List.set_cons_succ]
          refine wpAnyU_take (i := 37) [38, 39, 40, 41, 42] rfl (by as_aux_lemma => kernel_rfl) (by as_aux_lemma => kernel_rfl) (by as_aux_lemma => kernel_rfl) (by as_aux_lemma => kernel_rfl) (by as_aux_lemma => kernel_rfl) (by as_aux_lemma => kernel_rfl) (fun _ _ _ h => h) (by first | exact Or.inl ⟨by rfl, (by intro W hSW; (try dsimp only at hSW); (try go_split_ands); go_simp <;> with_reducible rfl)⟩ | exact Or.inr ⟨by rfl, rfl⟩) hS0 ?_
          try simp only [Act.put, List.getElem_toArray, List.getElem_cons_succ, List.getElem_cons_zero, List.setIfInBounds_toArray, List.set_cons_zero, List.set_cons_succ]
          refine wpAnyU_take (i := 38) [39, 40, 41, 42] rfl (by as_aux_lemma => kernel_rfl) (by as_aux_lemma => kernel_rfl) (by as_aux_lemma => kernel_rfl) (by as_aux_lemma => kernel_rfl) (by as_aux_lemma => kernel_rfl) (by as_aux_lemma => kernel_rfl) (fun _ _ _ h => h) (by first | exact Or.inl ⟨by rfl, (by intro W hSW; (try dsimp only at hSW); (try go_split_ands); go_simp <;> with_reducible rfl)⟩ | exact Or.inr ⟨by rfl, rfl⟩) hS0 ?_
          try simp only [Act.put, List.getElem_toArray, List.getElem_cons_succ, List.getElem_cons_zero, List.setIfInBounds_toArray, List.set_cons_zero, List.set_cons_succ]
          refine wpAnyU_one (i := 32) (by kernel_rfl) rfl (fun K hK => ?_)
          go_simp
          go_at_call 21
          (with_reducible refine HQA.out.mono ?_)
          rintro e w13 ⟨qv, rfl, hqrow, hb13⟩
          have hR13 := H12.out.1.below hb13
          have k13 := (hb13.block b (lt_of_block H12.out.2)).trans H12.out.2
          have hS13 : w13.cell? ⟨b, 0, none⟩ = some (.string gs) ∧ w13.cell? ⟨b, 1, none⟩ = some (.int .i64 gm) ∧ w13.cell? ⟨g, off + i * 4 + 2, none⟩ = some (.string xs) ∧ w13.cell? ⟨w.heap.size, 0, none⟩ = some (.slice ma mn mc) :=
            ⟨cell_of_row _ _ 0 _ _ _ k13, cell_of_row _ _ 1 _ _ _ k13, (HC.out _ hR13.bl).2, cell_of_row _ _ 0 _ _ _ hR13.bx⟩
          have hql := (HX.out.1.below hR13.bl).qlen xs
          have hrq := r14_queue w13 _ X (HX.out.2.2.1.below hR13.bl) (by have := HX.out.2.2.2.2.1.ln; omega) xs (by rw [HX.out.2.2.2.1.qs]; have := HX.out.2.1; omega)
          rw [HX.out.2.2.2.1.qs] at hrq
          have HRQ := Lib.hid hrq
          have H13 := Lib.hid (And.intro hR13 (And.intro k13 (And.intro hqrow hql)))
          clear hR13 k13 hqrow hql hrq hb13 HQA H12
          refine hK.out _ _ (fun _ => hS13) (fun _ => ?_)
          clear hK K
          try simp only [Act.put, List.getElem_toArray, List.getElem_cons_succ, List.getElem_cons_zero, List.setIfInBounds_toArray, List.set_cons_zero, List.set_cons_succ]
          refine wpAnyU_one (i := 39) (by kernel_rfl) rfl (fun K hK => ?_)
          go_simp
          go_at_call 50
          (with_reducible refine HRQ.out.mono ?_)
          rintro e w14 ⟨qv2, rfl, hqrow2, hb14⟩
          have hR14 := H13.out.1.below hb14
          have k14 := (hb14.block b (lt_of_block H13.out.2.1)).trans H13.out.2.1
          have hS14 : w14.cell? ⟨b, 0, none⟩ = some (.string gs) ∧ w14.cell? ⟨b, 1, none⟩ = some (.int .i64 gm) ∧ w14.cell? ⟨g, off + i * 4 + 2, none⟩ = some (.string xs) ∧ w14.cell? ⟨w.heap.size, 0, none⟩ = some (.slice ma mn mc) :=
            ⟨cell_of_row _ _ 0 _ _ _ k14, cell_of_row _ _ 1 _ _ _ k14, (HC.out _ hR14.bl).2, cell_of_row _ _ 0 _ _ _ hR14.bx⟩
          have hnu := numbers_rows (rowU_keep H13.out.2.2.1 (fun k e => hb14.block k (H13.out.2.2.1.lt k e).2)) hqrow2 (by have := H13.out.2.2.2; have := HX.out.2.1; omega)
          have HNU := Lib.hid hnu
          have H14 := Lib.hid (And.intro hR14 k14)
          clear hR14 k14 hqrow2 hb14 hnu HRQ H13
          refine hK.out _ _ (fun _ => hS14) (fun _ => ?_)
          clear hK K
          try simp only [Act.put, List.getElem_toArray, List.getElem_cons_succ, List.getElem_cons_zero, List.setIfInBounds_toArray, List.set_cons_zero, List.set_cons_succ]
          refine wpAnyU_one (i := 40) (by kernel_rfl) rfl (fun K hK => ?_)
          go_simp
          go_at_call 20
          (with_reducible refine HNU.out.mono ?_)
          rintro e w15 ⟨rfl, hb15⟩
          have hR15 := H14.out.1.below hb15
          have k15 := (hb15.block b (lt_of_block H14.out.2)).trans H14.out.2
          have hS15 : w15.cell? ⟨b, 0, none⟩ = some (.string gs) ∧ w15.cell? ⟨b, 1, none⟩ = some (.int .i64 gm) ∧ w15.cell? ⟨g, off + i * 4 + 2, none⟩ = some (.string xs) ∧ w15.cell? ⟨w.heap.size, 0, none⟩ = some (.slice ma mn mc) :=
            ⟨cell_of_row _ _ 0 _ _ _ k15, cell_of_row _ _ 1 _ _ _ k15, (HC.out _ hR15.bl).2, cell_of_row _ _ 0 _ _ _ hR15.bx⟩
          have H15 := Lib.hid hR15
          clear hR15 k15 hb15 HNU H14
          refine hK.out _ _ (fun _ => hS15) (fun _ => ?_)
          clear hK K
          try simp only [Act.put, List.getElem_toArray, List.getElem_cons_succ, List.getElem_cons_zero, List.setIfInBounds_toArray, List.set_cons_zero, List.set_cons_succ]
          refine wpAnyU_take (i := 41) [42] rfl (by as_aux_lemma => kernel_rfl) (by as_aux_lemma => kernel_rfl) (by as_aux_lemma => kernel_rfl) (by as_aux_lemma => kernel_rfl) (by as_aux_lemma => kernel_rfl) (by as_aux_lemma => kernel_rfl) (fun _ _ _ h => h) (by first | exact Or.inl ⟨by rfl, (by intro W hSW; (try dsimp only at hSW); (try go_split_ands); go_simp <;> with_reducible rfl)⟩ | exact Or.inr ⟨by rfl, rfl⟩) hS15 ?_
          try simp only [Act.put, List.getElem_toArray, List.getElem_cons_succ, List.getElem_cons_zero, List.setIfInBounds_toArray, List.set_cons_zero, List.set_cons_succ]
          refine wpAnyU_take (i := 42) [] rfl (by as_aux_lemma => kernel_rfl) (by as_aux_lemma => kernel_rfl) (by as_aux_lemma => kernel_rfl) (by as_aux_lemma => kernel_rfl) (by as_aux_lemma => kernel_rfl) (by as_aux_lemma => kernel_rfl) (fun _ _ _ h => h) (Or.inl ⟨by rfl, (by intro W hSW; (try dsimp only at hSW); (try go_split_ands); go_simp <;> with_reducible rfl)⟩) hS15 ?_
          try simp only [Act.put, List.getElem_toArray, List.getElem_cons_succ, List.getElem_cons_zero, List.setIfInBounds_toArray, List.set_cons_zero, List.set_cons_succ]
          refine wpAnyU_done (by kernel_rfl) ?_ _
          clear hS0 hS13 hS14 hS15
          go_wp2
          go_roundw
          case rel => exact ⟨i + 1, by rw [HWJ.out], HR.out.2, H15.out⟩
          case measure => exact meas_up HWJ.out HR.out.2
    · have hii : ¬ (i : Int) < (n : Int) := by omega
      have HF := Lib.hid hR.bl
      clear hR hlt hin
      go_wp2
      go_ret
      exact ⟨rfl, HF.out⟩
end Mun
