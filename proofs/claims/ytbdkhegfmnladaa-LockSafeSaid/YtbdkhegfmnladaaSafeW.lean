/- The walk of LockSafe. -/
import Derived.Test.YtbdkhegfmnladaaSafeP
import Derived.Test.YtbdkhegfmnladaaTbU
import Derived.Test.YtbdkhegfmnladaaMgM
import Derived.Test.YtbdkhegfmnladaaLockG
import Derived.Test.YtbdkhegfmnladaaMgA
set_option maxRecDepth 100000
set_option linter.unusedVariables false
set_option linter.unusedSimpArgs false
namespace Mun
open Go Go.RowKit
open Go.Proofs

theorem toList_ne {a b : ByteArray} (h : ¬ a = b) : (a.toList == b.toList) = false := by
  rw [beq_eq_false_iff_ne]
  intro e
  rw [ByteArray.toList_eq, ByteArray.toList_eq] at e
  apply h
  cases a; cases b
  simpa using e
theorem LDeedsAt.own {F : Foot} {w : World} {g off n c : Nat} {l : List LDeed} (h : LDeedsAt F w (.slice (some ⟨g, off, none⟩) n c) l) (i : Nat) (hi : i < l.length) {W : World} (hb : Below w.heap.size w W) : W.cell? ⟨g, off + i * 4 + 1, none⟩ = some (.int .u64 l[i].o) := by
  obtain ⟨g', off', c', hv, k0, k1, k2, k3⟩ := (h.below hb).at_ i hi
  injection hv with e1 e2 e3
  injection e1 with e1
  injection e1 with e4 e5
  subst e4
  subst e5
  exact k1
theorem gr_at {w : World} {B : Nat} {a : Option Addr} {n c : Nat} {l : List (ByteArray × Int)} (h : w.ownsRow B 33 2 (.slice a n c) n (grC l)) (hn : l.length = n) (i : Nat) (hi : i < l.length) :
    ∃ g off, a = some ⟨g, off, none⟩ ∧ ∀ W, Below w.heap.size w W → W.cell? ⟨g, off + i * 2, none⟩ = some (.string l[i].1) ∧ W.cell? ⟨g, off + i * 2 + 1, none⟩ = some (.int .i64 l[i].2) := by
  obtain ⟨g, off, c', hv, -, -, -, hg, hc⟩ := (RdV.of_own (F := NoF) h (fun _ _ => noF _)).at_ (by omega)
  injection hv with e1 e2 e3
  obtain ⟨k1, k2⟩ := grC_get l i hi
  refine ⟨g, off, e1, fun W hb => ?_⟩
  have h1 := hc _ _ k1
  have h2 := hc _ _ k2
  rw [← Nat.add_assoc] at h2
  exact ⟨(World.cell?_of_block (hb.block g hg)).trans h1, (World.cell?_of_block (hb.block g hg)).trans h2⟩

/-- what Held told, as it lies -/
theorem HePost.open {w w' : World} {A : AS} {o : Int} {c : Nat} {e : Ending} (h : HePost w A o c e w') :
    ∃ a n cc l, e = .returned (.slice a n cc) ∧ l.length = n ∧ n ≤ c ∧ w'.ownsRow w.heap.size 33 2 (.slice a n cc) n (grC l) ∧ (∀ p ∈ l, A.H p.1 o = some p.2) ∧ Below w.heap.size w w' ∧ (l = [] → ∀ s, A.H s o = none) := by
  obtain ⟨v, ns, rfl, h1, h2, h3, h4, hrow, hb⟩ := h
  obtain ⟨a, n, cc, rfl⟩ : ∃ va vn vc, v = .slice va vn vc := by
    rcases hrow.2 with ⟨rfl, -⟩ | ⟨g, cap, cur, rfl, -⟩
    · exact ⟨_, _, _, rfl⟩
    · exact ⟨_, _, _, rfl⟩
  have hn : ns.length = n := by
    rcases hrow.2 with ⟨e, h0⟩ | ⟨g, cap, cur, e, -⟩
    · injection e with _ e _; omega
    · injection e with _ e _; omega
  refine ⟨a, n, cc, HeldOf A o ns, rfl, by unfold HeldOf; rw [List.length_map, hn], by omega, by rw [← hn]; rw [← hn] at hrow; exact hrow, fun p hp => ?_, hb, fun hl s => ?_⟩
  · obtain ⟨s, hs, rfl⟩ := List.mem_map.1 hp
    have h9 := (h3 s).1 hs
    show A.H s o = some ((A.H s o).getD 0)
    cases hk : A.H s o with
    | none => exact absurd hk h9
    | some k => rfl
  · have : ns = [] := by unfold HeldOf at hl; simpa using hl
    subst this
    cases hk : A.H s o with
    | none => rfl
    | some k => have := (h3 s).2 (by rw [hk]; simp); simp at this

set_option maxHeartbeats 4000000 in
theorem safe_any (w : World) (v : Value) (l : List LDeed) (hv : LDeedsAt NoF w v l) (hl : l.length ≤ 3518437208882) :
    Calls Try.prog 7 #[v] w fun e w' => e = .returned (.bool true) ∧ Below w.heap.size w w' := by
  obtain ⟨va, vc, rfl, -, -⟩ := hv.row.form
  have haw := awake14 w
  have HV := Lib.hid (And.intro hv hl)
  obtain ⟨n, HN⟩ : ∃ n, Hid (l.length = n) := ⟨_, rfl⟩
  rw [HN.out]
  clear hv hl
  go_enter Try.func7, Try.ntmps7
  go_wp2_with fail
  refine haw.mono ?_
  rintro e w1 ⟨rfl, hb1⟩
  have HB1 := Lib.hid hb1
  have hnew := sd_new w1
  have HNEW := Lib.hid hnew
  clear hb1 hnew haw
  go_wp2_with fail
  refine HNEW.out.mono ?_
  rintro e w2 ⟨t, rfl, hb2, ht⟩
  obtain ⟨T, hT⟩ : ∃ T, t.T = T := ⟨_, rfl⟩
  rw [hT] at ht ⊢
  have HT := Lib.hid ht
  clear HNEW hT hb2 ht
  go_wp2_with fail
  go_loopw [4] (fun iv wr => ∃ (i : Nat) (t : TV) (A : AS), iv = .int .i64 i ∧ i ≤ n ∧ Sd w1 wr T t A i ∧ A.Safe) (fun iv _ => n - (Go.RowKit.intOf iv).toNat)
  case atStart => exact ⟨0, t, _, rfl, Nat.zero_le _, HT.out, AS.Safe.none⟩
  case round =>
    obtain ⟨i, t, A, rfl, hin, hat, hsa⟩ := hrel
    have hb : Below w.heap.size w wr := HB1.out.trans (hat.bl.mono HB1.out.size)
    by_cases hlt : i < n
    · have hil : i < l.length := by rw [HN.out]; exact hlt
      obtain ⟨g, off, c', hvv, k0, k1, k2, k3⟩ := (HV.out.1.below hb).at_ i hil
      rw [HN.out] at hvv
      injection hvv with e1 e2 e3
      subst e1
      have hdk := HV.out.1.ok _ (List.getElem_mem hil)
      obtain ⟨x, hx⟩ : ∃ x, l[i] = x := ⟨_, rfl⟩
      rw [hx] at k0 k1 k2 k3 hdk
      obtain ⟨xop, xo, xs, xm⟩ := x
      obtain ⟨-, -, hxs, -⟩ := hdk
      simp only at k0 k1 k2 k3 hxs
      have hii : (i : Int) < (n : Int) := by omega
      have hi0 : (0 : Int) ≤ (i : Int) := by omega
      obtain ⟨D, hD⟩ : ∃ D, wr.heap.size = D := ⟨_, rfl⟩
      obtain ⟨wA, hwA⟩ : ∃ wA, wr.alloc (.cells #[.int .i64 xop, .int .u64 xo, .string xs, .int .i64 xm] 42) = wA := ⟨_, rfl⟩
      have hbA : Below wr.heap.size wr wA := by rw [← hwA]; exact (Below.refl _ _).alloc (Nat.le_refl _) _
      have kA : wA.heap[D]? = some (.cells #[.int .i64 xop, .int .u64 xo, .string xs, .int .i64 xm] 42 (0, 0)) := by rw [← hwA, ← hD]; exact heap_alloc_new wr _
      have z0 : wA.cell? ⟨D, 0, none⟩ = some (.int .i64 xop) := cell_of_row wA D 0 _ _ _ kA
      have z1 : wA.cell? ⟨D, 1, none⟩ = some (.int .u64 xo) := cell_of_row wA D 1 _ _ _ kA
      have z2 : wA.cell? ⟨D, 2, none⟩ = some (.string xs) := cell_of_row wA D 2 _ _ _ kA
      have z3 : wA.cell? ⟨D, 3, none⟩ = some (.int .i64 xm) := cell_of_row wA D 3 _ _ _ kA
      have HX := Lib.hid (And.intro (hat.below hbA) (And.intro hsa hlt))
      have HWJ : Hid (wrap64 ((i : Int) + 1) = ((i + 1 : Nat) : Int)) := by show _ = _; have := HV.out.2; have := HN.out; unfold wrap64; omega
      have hci : i ≤ 8796093022199 := by have := HV.out.2; have := HN.out; omega
      have hask := HX.out.1.ask hci xo xs xm (by unfold maxLen; omega)
      have hfre := HX.out.1.free hci xo
      have HA := Lib.hid hask
      have HF := Lib.hid hfre
      clear kA hbA hlt hin hxs hx hil hb hat e2 e3 hsa hask hfre hci
      by_cases h4 : xop ≤ 4
      · go_wp2_with fail
        clear z0 z1 z2 z3 k0 k1 k2 k3 hwA HF
        refine HA.out.mono ?_
        rintro e w4 ⟨rfl, t', hst1, hsd1⟩
        have H4 := Lib.hid hsd1
        clear hst1 hsd1 HA
        go_wp2
        go_roundw
        case rel => exact ⟨i + 1, t', _, by rw [HWJ.out], HX.out.2.2, H4.out, HX.out.2.1.ask _ _ _⟩
        case measure => exact meas_up HWJ.out HX.out.2.2
      · go_wp2_with fail
        clear z0 z1 z2 z3 k0 k1 k2 k3 hwA HA
        refine HF.out.mono ?_
        rintro e w4 ⟨va1, ns1, t', rfl, -, -, -, hst1, hsd1, -, -, -⟩
        have H4 := Lib.hid hsd1
        clear hst1 hsd1 HF
        go_wp2
        go_roundw
        case rel => exact ⟨i + 1, t', _, by rw [HWJ.out], HX.out.2.2, H4.out.mono (Nat.le_succ _), HX.out.2.1.freed _⟩
        case measure => exact meas_up HWJ.out HX.out.2.2
    · have hii : ¬ (i : Int) < (n : Int) := by omega
      have hi2 : i = n := by omega
      subst hi2
      have HS := Lib.hid (And.intro hat (And.intro hsa hb))
      clear hb hin hat hlt hsa
      have hci : i ≤ 3518437208882 := by have := HV.out.2; have := HN.out; omega
      have HCI := Lib.hid hci
      clear hci HB1 HT
      obtain ⟨ws, rfl⟩ : ∃ ws : World, ws = wr := ⟨_, rfl⟩
      go_wp2_with fail
      go_loopw [6] (fun jv wr => ∃ j : Nat, jv = .int .i64 j ∧ j ≤ i ∧ Below ws.heap.size ws wr) (fun jv _ => i - (Go.RowKit.intOf jv).toNat)
      case atStart => exact ⟨0, rfl, Nat.zero_le _, Below.refl _ _⟩
      case round =>
        obtain ⟨j, rfl, hji, hbx⟩ := hrel
        by_cases hjlt : j < i
        · have hjl : j < l.length := by rw [HN.out]; exact hjlt
          have hbw := HS.out.2.2.trans (hbx.mono HS.out.2.2.size)
          obtain ⟨g, off, c', hvv, -, -, -, -⟩ := (HV.out.1.below hbw).at_ j hjl
          rw [HN.out] at hvv
          injection hvv with e1 e2 e3
          subst e1
          have c1 := HV.out.1.own j hjl hbw
          obtain ⟨oj, hoj⟩ : ∃ oj, l[j].o = oj := ⟨_, rfl⟩
          rw [hoj] at c1
          have hjj : (j : Int) < (i : Int) := by omega
          have hj0 : (0 : Int) ≤ (j : Int) := by omega
          have hsx := HS.out.1.below hbx
          have hhe := hsx.held (by have := HCI.out; omega) oj
          have HHE := Lib.hid hhe
          have HX := Lib.hid (And.intro hsx (And.intro hbx (And.intro hjlt hoj)))
          have HWJ : Hid (wrap64 ((j : Int) + 1) = ((j + 1 : Nat) : Int)) := by show _ = _; have := HCI.out; unfold wrap64; omega
          clear hbw hsx hhe hbx hjlt hji e2 e3 hoj
          go_wp2_with fail
          clear c1
          refine HHE.out.mono ?_
          intro e w4 hpost
          obtain ⟨aa, an, ac, al, rfl, hal, han, harow, hap, hb4, -⟩ := hpost.open
          have hs4 := HX.out.1.below hb4
          have hb4' := HX.out.2.1.trans (hb4.mono HX.out.2.1.size)
          have c1 := HV.out.1.own j hjl (HS.out.2.2.trans (hb4'.mono HS.out.2.2.size))
          rw [HX.out.2.2.2] at c1
          have hwa := hs4.waits oj
          have HWA := Lib.hid hwa
          have H4 := Lib.hid (And.intro hs4 (And.intro hb4' (And.intro hal (And.intro han (And.intro harow hap)))))
          clear hpost hs4 hb4' hwa hal han harow hap hb4 HHE
          go_wp2_with fail
          clear c1
          refine HWA.out.mono ?_
          rintro e w5 ⟨gs, gm, gw, rfl, hb5, hgw⟩
          obtain ⟨wq, hwq⟩ : ∃ wq, w5.alloc (.cells #[.string gs, .int .i64 gm] 33) = wq := ⟨_, rfl⟩
          have hbq : Below w4.heap.size w4 wq := by rw [← hwq]; exact hb5.alloc hb5.size _
          have hsq := H4.out.1.below hbq
          have hbq' := H4.out.2.1.trans (hbq.mono H4.out.2.1.size)
          have c1 := HV.out.1.own j hjl (HS.out.2.2.trans (hbq'.mono HS.out.2.2.size))
          rw [HX.out.2.2.2] at c1
          have hvi := hsq.victim (by have := HCI.out; omega) oj
          have HVI := Lib.hid hvi
          have HQ := Lib.hid (And.intro hsq (And.intro hbq' (And.intro hgw hbq)))
          clear hbq hsq hbq' hvi hb5 hgw HWA
          go_wp2_with fail
          clear c1
          try rw [hwq]
          clear hwq
          refine HVI.out.mono ?_
          rintro e w6 ⟨vv, vb, rfl, hb6, hvic⟩
          have hcase : vb = false ∨ (vb = true ∧ gw = true) := by
            cases vb with
            | false => exact .inl rfl
            | true =>
              refine .inr ⟨rfl, ?_⟩
              rcases HQ.out.2.2.1 with ⟨h1, -⟩ | ⟨-, h2, -⟩
              · exact h1
              · exact absurd (ring_waits hvic) h2
          have H6 := Lib.hid (And.intro (HQ.out.1.below hb6) (And.intro (HQ.out.2.1.trans (hb6.mono HQ.out.2.1.size)) (HQ.out.2.2.2.trans (hb6.mono HQ.out.2.2.2.size))))
          clear hb6 hvic HVI HQ
          rcases hcase with rfl | ⟨rfl, rfl⟩
          all_goals (
            go_wp2_with fail
            go_loopw [12] (fun kv wr => ∃ k : Nat, kv = .int .i64 k ∧ k ≤ j ∧ Below w6.heap.size w6 wr) (fun kv _ => j - (Go.RowKit.intOf kv).toNat)
            case atStart => exact ⟨0, rfl, Nat.zero_le _, Below.refl _ _⟩
            case round =>
              obtain ⟨k, rfl, hkj, hbk⟩ := hrel
              have hbk6 := H6.out.2.1.trans (hbk.mono H6.out.2.1.size)
              by_cases hklt : k < j
              · have hkl : k < l.length := by omega
                have hbd := hbk6.trans ((below_drewN (Below.refl _ _) 1 : Below wr.heap.size wr wr.drew).mono hbk6.size)
                have hS0 : wr.drew.cell? ⟨g, off + k * 4 + 1, none⟩ = some (.int .u64 l[k].o) ∧ wr.drew.cell? ⟨g, off + j * 4 + 1, none⟩ = some (.int .u64 oj) := by
                  refine ⟨HV.out.1.own k hkl (HS.out.2.2.trans (hbd.mono HS.out.2.2.size)), ?_⟩
                  rw [← HX.out.2.2.2]
                  exact HV.out.1.own j hjl (HS.out.2.2.trans (hbd.mono HS.out.2.2.size))
                obtain ⟨ok, hok⟩ : ∃ ok, l[k].o = ok := ⟨_, rfl⟩
                rw [hok] at hS0
                have hkk : (k : Int) < (j : Int) := by omega
                have hk0 : (0 : Int) ≤ (k : Int) := by omega
                have hki : (k : Int) < (i : Int) := by omega
                have HWK : Hid (wrap64 ((k : Int) + 1) = ((k + 1 : Nat) : Int)) := by show _ = _; have := HCI.out; unfold wrap64; omega
                have HK := Lib.hid (And.intro hbk (And.intro hbk6 (And.intro hklt (And.intro hkl hbd))))
                clear hbk hbk6 hklt hkj hok hbd
                go_upto_region 22 with (fail)
                refine wp_region_U (fun W => W.cell? ⟨g, off + k * 4 + 1, none⟩ = some (.int .u64 ok) ∧ W.cell? ⟨g, off + j * 4 + 1, none⟩ = some (.int .u64 oj)) [] (by kernel_rfl) ?_
                refine wpAnyU_take (i := 0) [2, 3, 4, 10] rfl (by as_aux_lemma => kernel_rfl) (by as_aux_lemma => kernel_rfl) (by as_aux_lemma => kernel_rfl) (by as_aux_lemma => kernel_rfl) (by as_aux_lemma => kernel_rfl) (by as_aux_lemma => kernel_rfl) (fun _ _ _ h => h) (Or.inl ⟨by rfl, (by intro W hSW; (try dsimp only at hSW); (try go_split_ands); go_simp <;> with_reducible rfl)⟩) hS0 ?_
                try simp only [Act.put, List.getElem_toArray, List.getElem_cons_succ, List.getElem_cons_zero, List.setIfInBounds_toArray, List.set_cons_zero, List.set_cons_succ]
                refine wpAnyU_take (i := 1) [2, 3, 4, 10] rfl (by as_aux_lemma => kernel_rfl) (by as_aux_lemma => kernel_rfl) (by as_aux_lemma => kernel_rfl) (by as_aux_lemma => kernel_rfl) (by as_aux_lemma => kernel_rfl) (by as_aux_lemma => kernel_rfl) (fun _ _ _ h => h) (Or.inl ⟨by rfl, (by intro W hSW; (try dsimp only at hSW); (try go_split_ands); go_simp <;> with_reducible rfl)⟩) hS0 ?_
                try simp only [Act.put, List.getElem_toArray, List.getElem_cons_succ, List.getElem_cons_zero, List.setIfInBounds_toArray, List.set_cons_zero, List.set_cons_succ]
                refine wpAnyU_take (i := 2) [3, 4, 10] rfl (by as_aux_lemma => kernel_rfl) (by as_aux_lemma => kernel_rfl) (by as_aux_lemma => kernel_rfl) (by as_aux_lemma => kernel_rfl) (by as_aux_lemma => kernel_rfl) (by as_aux_lemma => kernel_rfl) (fun _ _ _ h => h) (Or.inl ⟨by rfl, (by intro W hSW; (try dsimp only at hSW); (try go_split_ands); go_simp <;> with_reducible rfl)⟩) hS0 ?_
                try simp only [Act.put, List.getElem_toArray, List.getElem_cons_succ, List.getElem_cons_zero, List.setIfInBounds_toArray, List.set_cons_zero, List.set_cons_succ]
                refine wpAnyU_take (i := 3) [4, 10] rfl (by as_aux_lemma => kernel_rfl) (by as_aux_lemma => kernel_rfl) (by as_aux_lemma => kernel_rfl) (by as_aux_lemma => kernel_rfl) (by as_aux_lemma => kernel_rfl) (by as_aux_lemma => kernel_rfl) (fun _ _ _ h => h) (Or.inl ⟨by rfl, (by intro W hSW; (try dsimp only at hSW); (try go_split_ands); go_simp <;> with_reducible rfl)⟩) hS0 ?_
                try simp only [Act.put, List.getElem_toArray, List.getElem_cons_succ, List.getElem_cons_zero, List.setIfInBounds_toArray, List.set_cons_zero, List.set_cons_succ]
                refine wpAnyU_take (i := 4) [10] rfl (by as_aux_lemma => kernel_rfl) (by as_aux_lemma => kernel_rfl) (by as_aux_lemma => kernel_rfl) (by as_aux_lemma => kernel_rfl) (by as_aux_lemma => kernel_rfl) (by as_aux_lemma => kernel_rfl) (fun _ _ _ h => h) (Or.inl ⟨by rfl, (by intro W hSW; (try dsimp only at hSW); (try go_split_ands); go_simp <;> with_reducible rfl)⟩) hS0 ?_
                try simp only [Act.put, List.getElem_toArray, List.getElem_cons_succ, List.getElem_cons_zero, List.setIfInBounds_toArray, List.set_cons_zero, List.set_cons_succ]
                refine wpAnyU_take (i := 5) [7, 8, 9, 10] rfl (by as_aux_lemma => kernel_rfl) (by as_aux_lemma => kernel_rfl) (by as_aux_lemma => kernel_rfl) (by as_aux_lemma => kernel_rfl) (by as_aux_lemma => kernel_rfl) (by as_aux_lemma => kernel_rfl) (fun _ _ _ h => h) (Or.inl ⟨by rfl, (by intro W hSW; (try dsimp only at hSW); (try go_split_ands); go_simp <;> with_reducible rfl)⟩) hS0 ?_
                try simp only [Act.put, List.getElem_toArray, List.getElem_cons_succ, List.getElem_cons_zero, List.setIfInBounds_toArray, List.set_cons_zero, List.set_cons_succ]
                refine wpAnyU_take (i := 6) [7, 8, 9, 10] rfl (by as_aux_lemma => kernel_rfl) (by as_aux_lemma => kernel_rfl) (by as_aux_lemma => kernel_rfl) (by as_aux_lemma => kernel_rfl) (by as_aux_lemma => kernel_rfl) (by as_aux_lemma => kernel_rfl) (fun _ _ _ h => h) (Or.inl ⟨by rfl, (by intro W hSW; (try dsimp only at hSW); (try go_split_ands); go_simp <;> with_reducible rfl)⟩) hS0 ?_
                try simp only [Act.put, List.getElem_toArray, List.getElem_cons_succ, List.getElem_cons_zero, List.setIfInBounds_toArray, List.set_cons_zero, List.set_cons_succ]
                refine wpAnyU_take (i := 7) [8, 9, 10] rfl (by as_aux_lemma => kernel_rfl) (by as_aux_lemma => kernel_rfl) (by as_aux_lemma => kernel_rfl) (by as_aux_lemma => kernel_rfl) (by as_aux_lemma => kernel_rfl) (by as_aux_lemma => kernel_rfl) (fun _ _ _ h => h) (Or.inl ⟨by rfl, (by intro W hSW; (try dsimp only at hSW); (try go_split_ands); go_simp <;> with_reducible rfl)⟩) hS0 ?_
                try simp only [Act.put, List.getElem_toArray, List.getElem_cons_succ, List.getElem_cons_zero, List.setIfInBounds_toArray, List.set_cons_zero, List.set_cons_succ]
                refine wpAnyU_take (i := 8) [9, 10] rfl (by as_aux_lemma => kernel_rfl) (by as_aux_lemma => kernel_rfl) (by as_aux_lemma => kernel_rfl) (by as_aux_lemma => kernel_rfl) (by as_aux_lemma => kernel_rfl) (by as_aux_lemma => kernel_rfl) (fun _ _ _ h => h) (Or.inl ⟨by rfl, (by intro W hSW; (try dsimp only at hSW); (try go_split_ands); go_simp <;> with_reducible rfl)⟩) hS0 ?_
                try simp only [Act.put, List.getElem_toArray, List.getElem_cons_succ, List.getElem_cons_zero, List.setIfInBounds_toArray, List.set_cons_zero, List.set_cons_succ]
                refine wpAnyU_take (i := 9) [10] rfl (by as_aux_lemma => kernel_rfl) (by as_aux_lemma => kernel_rfl) (by as_aux_lemma => kernel_rfl) (by as_aux_lemma => kernel_rfl) (by as_aux_lemma => kernel_rfl) (by as_aux_lemma => kernel_rfl) (fun _ _ _ h => h) (Or.inl ⟨by rfl, (by intro W hSW; (try dsimp only at hSW); (try go_split_ands); go_simp <;> with_reducible rfl)⟩) hS0 ?_
                try simp only [Act.put, List.getElem_toArray, List.getElem_cons_succ, List.getElem_cons_zero, List.setIfInBounds_toArray, List.set_cons_zero, List.set_cons_succ]
                refine wpAnyU_take (i := 10) [] rfl (by as_aux_lemma => kernel_rfl) (by as_aux_lemma => kernel_rfl) (by as_aux_lemma => kernel_rfl) (by as_aux_lemma => kernel_rfl) (by as_aux_lemma => kernel_rfl) (by as_aux_lemma => kernel_rfl) (fun _ _ _ h => h) (Or.inl ⟨by rfl, (by intro W hSW; (try dsimp only at hSW); (try go_split_ands); go_simp <;> with_reducible rfl)⟩) hS0 ?_
                try simp only [Act.put, List.getElem_toArray, List.getElem_cons_succ, List.getElem_cons_zero, List.setIfInBounds_toArray, List.set_cons_zero, List.set_cons_succ]
                refine wpAnyU_done (by kernel_rfl) ?_ _
                obtain ⟨c1, c2⟩ := hS0
                by_cases heq : ok = oj
                · subst heq
                  have hbb : (ok == ok) = true := by simp
                  clear c1 c2
                  go_wp2
                  go_roundw
                  case rel => exact ⟨k + 1, by rw [HWK.out], HK.out.2.2.1, below_drewN HK.out.1 1⟩
                  case measure => exact meas_up HWK.out HK.out.2.2.1
                · have hbb : (ok == oj) = false := by simp [heq]
                  clear c2
                  have hsd := HS.out.1.below HK.out.2.2.2.2
                  have hhk := hsd.held (by have := HCI.out; omega) ok
                  have HHK := Lib.hid hhk
                  clear hsd hhk
                  go_wp2_with fail
                  clear c1
                  refine HHK.out.mono ?_
                  intro e w7 hpost
                  obtain ⟨ba, bn, bc, bl, rfl, hbl, hbn, hbrow, hbp, hb7, -⟩ := hpost.open
                  have hb67 : Below w6.heap.size w6 w7 := (HK.out.1.trans ((below_drewN (Below.refl _ _) 1 : Below wr.heap.size wr wr.drew).mono HK.out.1.size)).trans (hb7.mono (Nat.le_trans HK.out.1.size (Nat.le_refl _)))
                  have HB7 := Lib.hid (And.intro hb67 (And.intro hbl (And.intro hbn (And.intro hbrow hbp))))
                  have HSA : Hid (∀ p ∈ al, ∀ q ∈ bl, p.1 = q.1 → tog p.2 q.2 = true) := fun p hp q hq e => HS.out.2.1 p.1 oj ok p.2 q.2 (H4.out.2.2.2.2.2 p hp) (by rw [e]; exact hbp q hq) (fun e => heq e.symm)
                  clear hpost hb67 hbl hbn hbrow hbp hb7 HHK
                  obtain ⟨wc, rfl⟩ : ∃ wc : World, wc = wr := ⟨_, rfl⟩
                  go_wp2_with fail
                  go_loopw [14] (fun xv wr => ∃ x : Nat, xv = .int .i64 x ∧ x ≤ an ∧ Below w7.heap.size w7 wr) (fun xv _ => an - (Go.RowKit.intOf xv).toNat)
                  case atStart => exact ⟨0, rfl, Nat.zero_le _, Below.refl _ _⟩
                  case round =>
                    obtain ⟨x, rfl, hxa, hbx⟩ := hrel
                    by_cases hxlt : x < an
                    · have hxl : x < al.length := by rw [H4.out.2.2.1]; exact hxlt
                      obtain ⟨ga, oa, rfl, hca⟩ := gr_at H4.out.2.2.2.2.1 H4.out.2.2.1 x hxl
                      have hxm := List.getElem_mem hxl
                      obtain ⟨pa, hpa⟩ : ∃ pa, al[x] = pa := ⟨_, rfl⟩
                      rw [hpa] at hca hxm
                      obtain ⟨sa, ma⟩ := pa
                      have hxx : (x : Int) < (an : Int) := by omega
                      have hx0 : (0 : Int) ≤ (x : Int) := by omega
                      have HWX : Hid (wrap64 ((x : Int) + 1) = ((x + 1 : Nat) : Int)) := by show _ = _; have := HCI.out; have := H4.out.2.2.2.1; unfold wrap64; omega
                      have HX1 := Lib.hid (And.intro hbx (And.intro hxlt (And.intro hca hxm)))
                      clear hbx hxlt hxa hca hxm hpa hxl
                      obtain ⟨wd, rfl⟩ : ∃ wd : World, wd = wr := ⟨_, rfl⟩
                      go_wp2_with fail
                      go_loopw [15] (fun yv wr => ∃ y : Nat, yv = .int .i64 y ∧ y ≤ bn ∧ Below w7.heap.size w7 wr) (fun yv _ => bn - (Go.RowKit.intOf yv).toNat)
                      case atStart => exact ⟨0, rfl, Nat.zero_le _, HX1.out.1⟩
                      case round =>
                        obtain ⟨y, rfl, hyb, hby⟩ := hrel
                        by_cases hylt : y < bn
                        · have hyl : y < bl.length := by rw [HB7.out.2.1]; exact hylt
                          obtain ⟨gb, ob, rfl, hcb⟩ := gr_at HB7.out.2.2.2.1 HB7.out.2.1 y hyl
                          have hym := List.getElem_mem hyl
                          obtain ⟨pb, hpb⟩ : ∃ pb, bl[y] = pb := ⟨_, rfl⟩
                          rw [hpb] at hcb hym
                          obtain ⟨sb, mb⟩ := pb
                          have hyy : (y : Int) < (bn : Int) := by omega
                          have hy0 : (0 : Int) ≤ (y : Int) := by omega
                          have HWY : Hid (wrap64 ((y : Int) + 1) = ((y + 1 : Nat) : Int)) := by show _ = _; have := HCI.out; have := HB7.out.2.2.1; unfold wrap64; omega
                          have hbd : Below w7.heap.size w7 wr.drew := hby.trans ((below_drewN (Below.refl _ _) 1 : Below wr.heap.size wr wr.drew).mono hby.size)
                          have hb4d : Below w4.heap.size w4 wr.drew := (H6.out.2.2.trans (HB7.out.1.mono H6.out.2.2.size)).trans (hbd.mono (Nat.le_trans H6.out.2.2.size HB7.out.1.size))
                          obtain ⟨a1, a2⟩ := HX1.out.2.2.1 _ hb4d
                          obtain ⟨b1, b2⟩ := hcb _ hbd
                          simp only at a1 a2 b1 b2
                          have hS0 : wr.drew.cell? ⟨ga, oa + x * 2, none⟩ = some (.string sa) ∧ wr.drew.cell? ⟨ga, oa + x * 2 + 1, none⟩ = some (.int .i64 ma) ∧ wr.drew.cell? ⟨gb, ob + y * 2, none⟩ = some (.string sb) ∧ wr.drew.cell? ⟨gb, ob + y * 2 + 1, none⟩ = some (.int .i64 mb) := ⟨a1, a2, b1, b2⟩
                          have HTG : Hid (sa = sb → tog ma mb = true) := fun e => HSA.out _ HX1.out.2.2.2 _ hym e
                          have HK1 := Lib.hid (And.intro hby (And.intro hylt hbd))
                          clear hby hylt hyb hcb hym hpb hyl hbd hb4d a1 a2 b1 b2
                          by_cases hsab : sa = sb
                          · have htg := HTG.out hsab
                            subst hsab
                            have hss : (sa.toList == sa.toList) = true := by simp
                            have htc := together_any wr.drew ma mb
                            rw [htg] at htc
                            have HTC := Lib.hid htc
                            clear htc htg
                            go_upto_region 30 with (fail)
                            refine wp_region_U (fun W => W.cell? ⟨ga, oa + x * 2, none⟩ = some (.string sa) ∧ W.cell? ⟨ga, oa + x * 2 + 1, none⟩ = some (.int .i64 ma) ∧ W.cell? ⟨gb, ob + y * 2, none⟩ = some (.string sa) ∧ W.cell? ⟨gb, ob + y * 2 + 1, none⟩ = some (.int .i64 mb)) [] (by kernel_rfl) ?_
                            refine wpAnyU_take (i := 0) [2, 3, 4, 10, 11, 12, 13, 14, 15, 16, 17, 18, 19, 20, 21, 22, 23, 24] rfl (by as_aux_lemma => kernel_rfl) (by as_aux_lemma => kernel_rfl) (by as_aux_lemma => kernel_rfl) (by as_aux_lemma => kernel_rfl) (by as_aux_lemma => kernel_rfl) (by as_aux_lemma => kernel_rfl) (fun _ _ _ h => h) (Or.inl ⟨by rfl, (by intro W hSW; (try dsimp only at hSW); (try go_split_ands); go_simp <;> with_reducible rfl)⟩) hS0 ?_
                            try simp only [Act.put, List.getElem_toArray, List.getElem_cons_succ, List.getElem_cons_zero, List.setIfInBounds_toArray, List.set_cons_zero, List.set_cons_succ]
                            refine wpAnyU_take (i := 1) [2, 3, 4, 10, 11, 12, 13, 14, 15, 16, 17, 18, 19, 20, 21, 22, 23, 24] rfl (by as_aux_lemma => kernel_rfl) (by as_aux_lemma => kernel_rfl) (by as_aux_lemma => kernel_rfl) (by as_aux_lemma => kernel_rfl) (by as_aux_lemma => kernel_rfl) (by as_aux_lemma => kernel_rfl) (fun _ _ _ h => h) (Or.inl ⟨by rfl, (by intro W hSW; (try dsimp only at hSW); (try go_split_ands); go_simp <;> with_reducible rfl)⟩) hS0 ?_
                            try simp only [Act.put, List.getElem_toArray, List.getElem_cons_succ, List.getElem_cons_zero, List.setIfInBounds_toArray, List.set_cons_zero, List.set_cons_succ]
                            refine wpAnyU_take (i := 2) [3, 4, 10, 11, 12, 13, 14, 15, 16, 17, 18, 19, 20, 21, 22, 23, 24] rfl (by as_aux_lemma => kernel_rfl) (by as_aux_lemma => kernel_rfl) (by as_aux_lemma => kernel_rfl) (by as_aux_lemma => kernel_rfl) (by as_aux_lemma => kernel_rfl) (by as_aux_lemma => kernel_rfl) (fun _ _ _ h => h) (Or.inl ⟨by rfl, (by intro W hSW; (try dsimp only at hSW); (try go_split_ands); go_simp <;> with_reducible rfl)⟩) hS0 ?_
                            try simp only [Act.put, List.getElem_toArray, List.getElem_cons_succ, List.getElem_cons_zero, List.setIfInBounds_toArray, List.set_cons_zero, List.set_cons_succ]
                            refine wpAnyU_take (i := 3) [4, 10, 11, 12, 13, 14, 15, 16, 17, 18, 19, 20, 21, 22, 23, 24] rfl (by as_aux_lemma => kernel_rfl) (by as_aux_lemma => kernel_rfl) (by as_aux_lemma => kernel_rfl) (by as_aux_lemma => kernel_rfl) (by as_aux_lemma => kernel_rfl) (by as_aux_lemma => kernel_rfl) (fun _ _ _ h => h) (Or.inl ⟨by rfl, (by intro W hSW; (try dsimp only at hSW); (try go_split_ands); go_simp <;> with_reducible rfl)⟩) hS0 ?_
                            try simp only [Act.put, List.getElem_toArray, List.getElem_cons_succ, List.getElem_cons_zero, List.setIfInBounds_toArray, List.set_cons_zero, List.set_cons_succ]
                            refine wpAnyU_take (i := 4) [10, 11, 12, 13, 14, 15, 16, 17, 18, 19, 20, 21, 22, 23, 24] rfl (by as_aux_lemma => kernel_rfl) (by as_aux_lemma => kernel_rfl) (by as_aux_lemma => kernel_rfl) (by as_aux_lemma => kernel_rfl) (by as_aux_lemma => kernel_rfl) (by as_aux_lemma => kernel_rfl) (fun _ _ _ h => h) (Or.inl ⟨by rfl, (by intro W hSW; (try dsimp only at hSW); (try go_split_ands); go_simp <;> with_reducible rfl)⟩) hS0 ?_
                            try simp only [Act.put, List.getElem_toArray, List.getElem_cons_succ, List.getElem_cons_zero, List.setIfInBounds_toArray, List.set_cons_zero, List.set_cons_succ]
                            refine wpAnyU_take (i := 5) [7, 8, 9, 10, 11, 12, 13, 14, 15, 16, 17, 18, 19, 20, 21, 22, 23, 24] rfl (by as_aux_lemma => kernel_rfl) (by as_aux_lemma => kernel_rfl) (by as_aux_lemma => kernel_rfl) (by as_aux_lemma => kernel_rfl) (by as_aux_lemma => kernel_rfl) (by as_aux_lemma => kernel_rfl) (fun _ _ _ h => h) (Or.inl ⟨by rfl, (by intro W hSW; (try dsimp only at hSW); (try go_split_ands); go_simp <;> with_reducible rfl)⟩) hS0 ?_
                            try simp only [Act.put, List.getElem_toArray, List.getElem_cons_succ, List.getElem_cons_zero, List.setIfInBounds_toArray, List.set_cons_zero, List.set_cons_succ]
                            refine wpAnyU_take (i := 6) [7, 8, 9, 10, 11, 12, 13, 14, 15, 16, 17, 18, 19, 20, 21, 22, 23, 24] rfl (by as_aux_lemma => kernel_rfl) (by as_aux_lemma => kernel_rfl) (by as_aux_lemma => kernel_rfl) (by as_aux_lemma => kernel_rfl) (by as_aux_lemma => kernel_rfl) (by as_aux_lemma => kernel_rfl) (fun _ _ _ h => h) (Or.inl ⟨by rfl, (by intro W hSW; (try dsimp only at hSW); (try go_split_ands); go_simp <;> with_reducible rfl)⟩) hS0 ?_
                            try simp only [Act.put, List.getElem_toArray, List.getElem_cons_succ, List.getElem_cons_zero, List.setIfInBounds_toArray, List.set_cons_zero, List.set_cons_succ]
                            refine wpAnyU_take (i := 7) [8, 9, 10, 11, 12, 13, 14, 15, 16, 17, 18, 19, 20, 21, 22, 23, 24] rfl (by as_aux_lemma => kernel_rfl) (by as_aux_lemma => kernel_rfl) (by as_aux_lemma => kernel_rfl) (by as_aux_lemma => kernel_rfl) (by as_aux_lemma => kernel_rfl) (by as_aux_lemma => kernel_rfl) (fun _ _ _ h => h) (Or.inl ⟨by rfl, (by intro W hSW; (try dsimp only at hSW); (try go_split_ands); go_simp <;> with_reducible rfl)⟩) hS0 ?_
                            try simp only [Act.put, List.getElem_toArray, List.getElem_cons_succ, List.getElem_cons_zero, List.setIfInBounds_toArray, List.set_cons_zero, List.set_cons_succ]
                            refine wpAnyU_take (i := 8) [9, 10, 11, 12, 13, 14, 15, 16, 17, 18, 19, 20, 21, 22, 23, 24] rfl (by as_aux_lemma => kernel_rfl) (by as_aux_lemma => kernel_rfl) (by as_aux_lemma => kernel_rfl) (by as_aux_lemma => kernel_rfl) (by as_aux_lemma => kernel_rfl) (by as_aux_lemma => kernel_rfl) (fun _ _ _ h => h) (Or.inl ⟨by rfl, (by intro W hSW; (try dsimp only at hSW); (try go_split_ands); go_simp <;> with_reducible rfl)⟩) hS0 ?_
                            try simp only [Act.put, List.getElem_toArray, List.getElem_cons_succ, List.getElem_cons_zero, List.setIfInBounds_toArray, List.set_cons_zero, List.set_cons_succ]
                            refine wpAnyU_take (i := 9) [10, 11, 12, 13, 14, 15, 16, 17, 18, 19, 20, 21, 22, 23, 24] rfl (by as_aux_lemma => kernel_rfl) (by as_aux_lemma => kernel_rfl) (by as_aux_lemma => kernel_rfl) (by as_aux_lemma => kernel_rfl) (by as_aux_lemma => kernel_rfl) (by as_aux_lemma => kernel_rfl) (fun _ _ _ h => h) (Or.inl ⟨by rfl, (by intro W hSW; (try dsimp only at hSW); (try go_split_ands); go_simp <;> with_reducible rfl)⟩) hS0 ?_
                            try simp only [Act.put, List.getElem_toArray, List.getElem_cons_succ, List.getElem_cons_zero, List.setIfInBounds_toArray, List.set_cons_zero, List.set_cons_succ]
                            refine wpAnyU_take (i := 10) [11, 12, 13, 14, 15, 16, 17, 18, 19, 20, 21, 22, 23, 24] rfl (by as_aux_lemma => kernel_rfl) (by as_aux_lemma => kernel_rfl) (by as_aux_lemma => kernel_rfl) (by as_aux_lemma => kernel_rfl) (by as_aux_lemma => kernel_rfl) (by as_aux_lemma => kernel_rfl) (fun _ _ _ h => h) (Or.inl ⟨by rfl, (by intro W hSW; (try dsimp only at hSW); (try go_split_ands); go_simp <;> with_reducible rfl)⟩) hS0 ?_
                            try simp only [Act.put, List.getElem_toArray, List.getElem_cons_succ, List.getElem_cons_zero, List.setIfInBounds_toArray, List.set_cons_zero, List.set_cons_succ]
                            refine wpAnyU_take (i := 11) [12, 13, 14, 15, 16, 17, 18, 19, 20, 21, 22, 23, 24] rfl (by as_aux_lemma => kernel_rfl) (by as_aux_lemma => kernel_rfl) (by as_aux_lemma => kernel_rfl) (by as_aux_lemma => kernel_rfl) (by as_aux_lemma => kernel_rfl) (by as_aux_lemma => kernel_rfl) (fun _ _ _ h => h) (Or.inl ⟨by rfl, (by intro W hSW; (try dsimp only at hSW); (try go_split_ands); go_simp <;> with_reducible rfl)⟩) hS0 ?_
                            try simp only [Act.put, List.getElem_toArray, List.getElem_cons_succ, List.getElem_cons_zero, List.setIfInBounds_toArray, List.set_cons_zero, List.set_cons_succ]
                            refine wpAnyU_take (i := 12) [14, 15, 16, 22, 23, 24] rfl (by as_aux_lemma => kernel_rfl) (by as_aux_lemma => kernel_rfl) (by as_aux_lemma => kernel_rfl) (by as_aux_lemma => kernel_rfl) (by as_aux_lemma => kernel_rfl) (by as_aux_lemma => kernel_rfl) (fun _ _ _ h => h) (by first | exact Or.inl ⟨by rfl, (by intro W hSW; (try dsimp only at hSW); (try go_split_ands); go_simp <;> with_reducible rfl)⟩ | exact Or.inr ⟨by rfl, rfl⟩) hS0 ?_
                            try simp only [Act.put, List.getElem_toArray, List.getElem_cons_succ, List.getElem_cons_zero, List.setIfInBounds_toArray, List.set_cons_zero, List.set_cons_succ]
                            refine wpAnyU_take (i := 13) [14, 15, 16, 22, 23, 24] rfl (by as_aux_lemma => kernel_rfl) (by as_aux_lemma => kernel_rfl) (by as_aux_lemma => kernel_rfl) (by as_aux_lemma => kernel_rfl) (by as_aux_lemma => kernel_rfl) (by as_aux_lemma => kernel_rfl) (fun _ _ _ h => h) (by first | exact Or.inl ⟨by rfl, (by intro W hSW; (try dsimp only at hSW); (try go_split_ands); go_simp <;> with_reducible rfl)⟩ | exact Or.inr ⟨by rfl, rfl⟩) hS0 ?_
                            try simp only [Act.put, List.getElem_toArray, List.getElem_cons_succ, List.getElem_cons_zero, List.setIfInBounds_toArray, List.set_cons_zero, List.set_cons_succ]
                            refine wpAnyU_take (i := 14) [15, 16, 22, 23, 24] rfl (by as_aux_lemma => kernel_rfl) (by as_aux_lemma => kernel_rfl) (by as_aux_lemma => kernel_rfl) (by as_aux_lemma => kernel_rfl) (by as_aux_lemma => kernel_rfl) (by as_aux_lemma => kernel_rfl) (fun _ _ _ h => h) (by first | exact Or.inl ⟨by rfl, (by intro W hSW; (try dsimp only at hSW); (try go_split_ands); go_simp <;> with_reducible rfl)⟩ | exact Or.inr ⟨by rfl, rfl⟩) hS0 ?_
                            try simp only [Act.put, List.getElem_toArray, List.getElem_cons_succ, List.getElem_cons_zero, List.setIfInBounds_toArray, List.set_cons_zero, List.set_cons_succ]
                            refine wpAnyU_take (i := 15) [16, 22, 23, 24] rfl (by as_aux_lemma => kernel_rfl) (by as_aux_lemma => kernel_rfl) (by as_aux_lemma => kernel_rfl) (by as_aux_lemma => kernel_rfl) (by as_aux_lemma => kernel_rfl) (by as_aux_lemma => kernel_rfl) (fun _ _ _ h => h) (by first | exact Or.inl ⟨by rfl, (by intro W hSW; (try dsimp only at hSW); (try go_split_ands); go_simp <;> with_reducible rfl)⟩ | exact Or.inr ⟨by rfl, rfl⟩) hS0 ?_
                            try simp only [Act.put, List.getElem_toArray, List.getElem_cons_succ, List.getElem_cons_zero, List.setIfInBounds_toArray, List.set_cons_zero, List.set_cons_succ]
                            refine wpAnyU_take (i := 16) [22, 23, 24] rfl (by as_aux_lemma => kernel_rfl) (by as_aux_lemma => kernel_rfl) (by as_aux_lemma => kernel_rfl) (by as_aux_lemma => kernel_rfl) (by as_aux_lemma => kernel_rfl) (by as_aux_lemma => kernel_rfl) (fun _ _ _ h => h) (by first | exact Or.inl ⟨by rfl, (by intro W hSW; (try dsimp only at hSW); (try go_split_ands); go_simp <;> with_reducible rfl)⟩ | exact Or.inr ⟨by rfl, rfl⟩) hS0 ?_
                            try simp only [Act.put, List.getElem_toArray, List.getElem_cons_succ, List.getElem_cons_zero, List.setIfInBounds_toArray, List.set_cons_zero, List.set_cons_succ]
                            refine wpAnyU_take (i := 17) [19, 20, 21, 22, 23, 24] rfl (by as_aux_lemma => kernel_rfl) (by as_aux_lemma => kernel_rfl) (by as_aux_lemma => kernel_rfl) (by as_aux_lemma => kernel_rfl) (by as_aux_lemma => kernel_rfl) (by as_aux_lemma => kernel_rfl) (fun _ _ _ h => h) (by first | exact Or.inl ⟨by rfl, (by intro W hSW; (try dsimp only at hSW); (try go_split_ands); go_simp <;> with_reducible rfl)⟩ | exact Or.inr ⟨by rfl, rfl⟩) hS0 ?_
                            try simp only [Act.put, List.getElem_toArray, List.getElem_cons_succ, List.getElem_cons_zero, List.setIfInBounds_toArray, List.set_cons_zero, List.set_cons_succ]
                            refine wpAnyU_take (i := 18) [19, 20, 21, 22, 23, 24] rfl (by as_aux_lemma => kernel_rfl) (by as_aux_lemma => kernel_rfl) (by as_aux_lemma => kernel_rfl) (by as_aux_lemma => kernel_rfl) (by as_aux_lemma => kernel_rfl) (by as_aux_lemma => kernel_rfl) (fun _ _ _ h => h) (by first | exact Or.inl ⟨by rfl, (by intro W hSW; (try dsimp only at hSW); (try go_split_ands); go_simp <;> with_reducible rfl)⟩ | exact Or.inr ⟨by rfl, rfl⟩) hS0 ?_
                            try simp only [Act.put, List.getElem_toArray, List.getElem_cons_succ, List.getElem_cons_zero, List.setIfInBounds_toArray, List.set_cons_zero, List.set_cons_succ]
                            refine wpAnyU_take (i := 19) [20, 21, 22, 23, 24] rfl (by as_aux_lemma => kernel_rfl) (by as_aux_lemma => kernel_rfl) (by as_aux_lemma => kernel_rfl) (by as_aux_lemma => kernel_rfl) (by as_aux_lemma => kernel_rfl) (by as_aux_lemma => kernel_rfl) (fun _ _ _ h => h) (by first | exact Or.inl ⟨by rfl, (by intro W hSW; (try dsimp only at hSW); (try go_split_ands); go_simp <;> with_reducible rfl)⟩ | exact Or.inr ⟨by rfl, rfl⟩) hS0 ?_
                            try simp only [Act.put, List.getElem_toArray, List.getElem_cons_succ, List.getElem_cons_zero, List.setIfInBounds_toArray, List.set_cons_zero, List.set_cons_succ]
                            refine wpAnyU_take (i := 20) [21, 22, 23, 24] rfl (by as_aux_lemma => kernel_rfl) (by as_aux_lemma => kernel_rfl) (by as_aux_lemma => kernel_rfl) (by as_aux_lemma => kernel_rfl) (by as_aux_lemma => kernel_rfl) (by as_aux_lemma => kernel_rfl) (fun _ _ _ h => h) (by first | exact Or.inl ⟨by rfl, (by intro W hSW; (try dsimp only at hSW); (try go_split_ands); go_simp <;> with_reducible rfl)⟩ | exact Or.inr ⟨by rfl, rfl⟩) hS0 ?_
                            try simp only [Act.put, List.getElem_toArray, List.getElem_cons_succ, List.getElem_cons_zero, List.setIfInBounds_toArray, List.set_cons_zero, List.set_cons_succ]
                            refine wpAnyU_take (i := 21) [22, 23, 24] rfl (by as_aux_lemma => kernel_rfl) (by as_aux_lemma => kernel_rfl) (by as_aux_lemma => kernel_rfl) (by as_aux_lemma => kernel_rfl) (by as_aux_lemma => kernel_rfl) (by as_aux_lemma => kernel_rfl) (fun _ _ _ h => h) (by first | exact Or.inl ⟨by rfl, (by intro W hSW; (try dsimp only at hSW); (try go_split_ands); go_simp <;> with_reducible rfl)⟩ | exact Or.inr ⟨by rfl, rfl⟩) hS0 ?_
                            try simp only [Act.put, List.getElem_toArray, List.getElem_cons_succ, List.getElem_cons_zero, List.setIfInBounds_toArray, List.set_cons_zero, List.set_cons_succ]
                            refine wpAnyU_one (i := 22) (by kernel_rfl) rfl (fun K hK => ?_)
                            go_simp
                            go_at_call 12
                            (with_reducible refine HTC.out.mono ?_)
                            rintro e w9 ⟨rfl, hb9⟩
                            have hS9 : w9.cell? ⟨ga, oa + x * 2, none⟩ = some (.string sa) ∧ w9.cell? ⟨ga, oa + x * 2 + 1, none⟩ = some (.int .i64 ma) ∧ w9.cell? ⟨gb, ob + y * 2, none⟩ = some (.string sa) ∧ w9.cell? ⟨gb, ob + y * 2 + 1, none⟩ = some (.int .i64 mb) := by
                              have kk : ∀ (p : Addr) (vv : Value), wr.drew.cell? p = some vv → w9.cell? p = some vv := fun p vv h9 => (World.cell?_of_block (hb9.block _ (World.block_lt_of_cell? _ _ h9))).trans h9
                              exact ⟨kk _ _ hS0.1, kk _ _ hS0.2.1, kk _ _ hS0.2.2.1, kk _ _ hS0.2.2.2⟩
                            have H9 : Hid (Below w7.heap.size w7 w9) := HK1.out.2.2.trans (hb9.mono HK1.out.2.2.size)
                            clear hb9 HTC
                            refine hK.out _ _ (fun _ => hS9) (fun _ => ?_)
                            clear hK K
                            try simp only [Act.put, List.getElem_toArray, List.getElem_cons_succ, List.getElem_cons_zero, List.setIfInBounds_toArray, List.set_cons_zero, List.set_cons_succ]
                            refine wpAnyU_take (i := 23) [24] rfl (by as_aux_lemma => kernel_rfl) (by as_aux_lemma => kernel_rfl) (by as_aux_lemma => kernel_rfl) (by as_aux_lemma => kernel_rfl) (by as_aux_lemma => kernel_rfl) (by as_aux_lemma => kernel_rfl) (fun _ _ _ h => h) (by first | exact Or.inl ⟨by rfl, (by intro W hSW; (try dsimp only at hSW); (try go_split_ands); go_simp <;> with_reducible rfl)⟩ | exact Or.inr ⟨by rfl, rfl⟩) hS9 ?_
                            try simp only [Act.put, List.getElem_toArray, List.getElem_cons_succ, List.getElem_cons_zero, List.setIfInBounds_toArray, List.set_cons_zero, List.set_cons_succ]
                            refine wpAnyU_take (i := 24) [] rfl (by as_aux_lemma => kernel_rfl) (by as_aux_lemma => kernel_rfl) (by as_aux_lemma => kernel_rfl) (by as_aux_lemma => kernel_rfl) (by as_aux_lemma => kernel_rfl) (by as_aux_lemma => kernel_rfl) (fun _ _ _ h => h) (Or.inl ⟨by rfl, (by intro W hSW; (try dsimp only at hSW); (try go_split_ands); go_simp <;> with_reducible rfl)⟩) hS9 ?_
                            try simp only [Act.put, List.getElem_toArray, List.getElem_cons_succ, List.getElem_cons_zero, List.setIfInBounds_toArray, List.set_cons_zero, List.set_cons_succ]
                            refine wpAnyU_done (by kernel_rfl) ?_ _
                            clear hS0 hS9
                            go_wp2
                            go_roundw
                            case rel => exact ⟨y + 1, by rw [HWY.out], HK1.out.2.1, H9.out⟩
                            case measure => exact meas_up HWY.out HK1.out.2.1
                          · have hss : (sa.toList == sb.toList) = false := toList_ne hsab
                            go_upto_region 30 with (fail)
                            refine wp_region_U (fun W => W.cell? ⟨ga, oa + x * 2, none⟩ = some (.string sa) ∧ W.cell? ⟨ga, oa + x * 2 + 1, none⟩ = some (.int .i64 ma) ∧ W.cell? ⟨gb, ob + y * 2, none⟩ = some (.string sb) ∧ W.cell? ⟨gb, ob + y * 2 + 1, none⟩ = some (.int .i64 mb)) [] (by kernel_rfl) ?_
                            refine wpAnyU_take (i := 0) [2, 3, 4, 10, 11, 12, 13, 14, 15, 16, 17, 18, 19, 20, 21, 22, 23, 24] rfl (by as_aux_lemma => kernel_rfl) (by as_aux_lemma => kernel_rfl) (by as_aux_lemma => kernel_rfl) (by as_aux_lemma => kernel_rfl) (by as_aux_lemma => kernel_rfl) (by as_aux_lemma => kernel_rfl) (fun _ _ _ h => h) (Or.inl ⟨by rfl, (by intro W hSW; (try dsimp only at hSW); (try go_split_ands); go_simp <;> with_reducible rfl)⟩) hS0 ?_
                            try simp only [Act.put, List.getElem_toArray, List.getElem_cons_succ, List.getElem_cons_zero, List.setIfInBounds_toArray, List.set_cons_zero, List.set_cons_succ]
                            refine wpAnyU_take (i := 1) [2, 3, 4, 10, 11, 12, 13, 14, 15, 16, 17, 18, 19, 20, 21, 22, 23, 24] rfl (by as_aux_lemma => kernel_rfl) (by as_aux_lemma => kernel_rfl) (by as_aux_lemma => kernel_rfl) (by as_aux_lemma => kernel_rfl) (by as_aux_lemma => kernel_rfl) (by as_aux_lemma => kernel_rfl) (fun _ _ _ h => h) (Or.inl ⟨by rfl, (by intro W hSW; (try dsimp only at hSW); (try go_split_ands); go_simp <;> with_reducible rfl)⟩) hS0 ?_
                            try simp only [Act.put, List.getElem_toArray, List.getElem_cons_succ, List.getElem_cons_zero, List.setIfInBounds_toArray, List.set_cons_zero, List.set_cons_succ]
                            refine wpAnyU_take (i := 2) [3, 4, 10, 11, 12, 13, 14, 15, 16, 17, 18, 19, 20, 21, 22, 23, 24] rfl (by as_aux_lemma => kernel_rfl) (by as_aux_lemma => kernel_rfl) (by as_aux_lemma => kernel_rfl) (by as_aux_lemma => kernel_rfl) (by as_aux_lemma => kernel_rfl) (by as_aux_lemma => kernel_rfl) (fun _ _ _ h => h) (Or.inl ⟨by rfl, (by intro W hSW; (try dsimp only at hSW); (try go_split_ands); go_simp <;> with_reducible rfl)⟩) hS0 ?_
                            try simp only [Act.put, List.getElem_toArray, List.getElem_cons_succ, List.getElem_cons_zero, List.setIfInBounds_toArray, List.set_cons_zero, List.set_cons_succ]
                            refine wpAnyU_take (i := 3) [4, 10, 11, 12, 13, 14, 15, 16, 17, 18, 19, 20, 21, 22, 23, 24] rfl (by as_aux_lemma => kernel_rfl) (by as_aux_lemma => kernel_rfl) (by as_aux_lemma => kernel_rfl) (by as_aux_lemma => kernel_rfl) (by as_aux_lemma => kernel_rfl) (by as_aux_lemma => kernel_rfl) (fun _ _ _ h => h) (Or.inl ⟨by rfl, (by intro W hSW; (try dsimp only at hSW); (try go_split_ands); go_simp <;> with_reducible rfl)⟩) hS0 ?_
                            try simp only [Act.put, List.getElem_toArray, List.getElem_cons_succ, List.getElem_cons_zero, List.setIfInBounds_toArray, List.set_cons_zero, List.set_cons_succ]
                            refine wpAnyU_take (i := 4) [10, 11, 12, 13, 14, 15, 16, 17, 18, 19, 20, 21, 22, 23, 24] rfl (by as_aux_lemma => kernel_rfl) (by as_aux_lemma => kernel_rfl) (by as_aux_lemma => kernel_rfl) (by as_aux_lemma => kernel_rfl) (by as_aux_lemma => kernel_rfl) (by as_aux_lemma => kernel_rfl) (fun _ _ _ h => h) (Or.inl ⟨by rfl, (by intro W hSW; (try dsimp only at hSW); (try go_split_ands); go_simp <;> with_reducible rfl)⟩) hS0 ?_
                            try simp only [Act.put, List.getElem_toArray, List.getElem_cons_succ, List.getElem_cons_zero, List.setIfInBounds_toArray, List.set_cons_zero, List.set_cons_succ]
                            refine wpAnyU_take (i := 5) [7, 8, 9, 10, 11, 12, 13, 14, 15, 16, 17, 18, 19, 20, 21, 22, 23, 24] rfl (by as_aux_lemma => kernel_rfl) (by as_aux_lemma => kernel_rfl) (by as_aux_lemma => kernel_rfl) (by as_aux_lemma => kernel_rfl) (by as_aux_lemma => kernel_rfl) (by as_aux_lemma => kernel_rfl) (fun _ _ _ h => h) (Or.inl ⟨by rfl, (by intro W hSW; (try dsimp only at hSW); (try go_split_ands); go_simp <;> with_reducible rfl)⟩) hS0 ?_
                            try simp only [Act.put, List.getElem_toArray, List.getElem_cons_succ, List.getElem_cons_zero, List.setIfInBounds_toArray, List.set_cons_zero, List.set_cons_succ]
                            refine wpAnyU_take (i := 6) [7, 8, 9, 10, 11, 12, 13, 14, 15, 16, 17, 18, 19, 20, 21, 22, 23, 24] rfl (by as_aux_lemma => kernel_rfl) (by as_aux_lemma => kernel_rfl) (by as_aux_lemma => kernel_rfl) (by as_aux_lemma => kernel_rfl) (by as_aux_lemma => kernel_rfl) (by as_aux_lemma => kernel_rfl) (fun _ _ _ h => h) (Or.inl ⟨by rfl, (by intro W hSW; (try dsimp only at hSW); (try go_split_ands); go_simp <;> with_reducible rfl)⟩) hS0 ?_
                            try simp only [Act.put, List.getElem_toArray, List.getElem_cons_succ, List.getElem_cons_zero, List.setIfInBounds_toArray, List.set_cons_zero, List.set_cons_succ]
                            refine wpAnyU_take (i := 7) [8, 9, 10, 11, 12, 13, 14, 15, 16, 17, 18, 19, 20, 21, 22, 23, 24] rfl (by as_aux_lemma => kernel_rfl) (by as_aux_lemma => kernel_rfl) (by as_aux_lemma => kernel_rfl) (by as_aux_lemma => kernel_rfl) (by as_aux_lemma => kernel_rfl) (by as_aux_lemma => kernel_rfl) (fun _ _ _ h => h) (Or.inl ⟨by rfl, (by intro W hSW; (try dsimp only at hSW); (try go_split_ands); go_simp <;> with_reducible rfl)⟩) hS0 ?_
                            try simp only [Act.put, List.getElem_toArray, List.getElem_cons_succ, List.getElem_cons_zero, List.setIfInBounds_toArray, List.set_cons_zero, List.set_cons_succ]
                            refine wpAnyU_take (i := 8) [9, 10, 11, 12, 13, 14, 15, 16, 17, 18, 19, 20, 21, 22, 23, 24] rfl (by as_aux_lemma => kernel_rfl) (by as_aux_lemma => kernel_rfl) (by as_aux_lemma => kernel_rfl) (by as_aux_lemma => kernel_rfl) (by as_aux_lemma => kernel_rfl) (by as_aux_lemma => kernel_rfl) (fun _ _ _ h => h) (Or.inl ⟨by rfl, (by intro W hSW; (try dsimp only at hSW); (try go_split_ands); go_simp <;> with_reducible rfl)⟩) hS0 ?_
                            try simp only [Act.put, List.getElem_toArray, List.getElem_cons_succ, List.getElem_cons_zero, List.setIfInBounds_toArray, List.set_cons_zero, List.set_cons_succ]
                            refine wpAnyU_take (i := 9) [10, 11, 12, 13, 14, 15, 16, 17, 18, 19, 20, 21, 22, 23, 24] rfl (by as_aux_lemma => kernel_rfl) (by as_aux_lemma => kernel_rfl) (by as_aux_lemma => kernel_rfl) (by as_aux_lemma => kernel_rfl) (by as_aux_lemma => kernel_rfl) (by as_aux_lemma => kernel_rfl) (fun _ _ _ h => h) (Or.inl ⟨by rfl, (by intro W hSW; (try dsimp only at hSW); (try go_split_ands); go_simp <;> with_reducible rfl)⟩) hS0 ?_
                            try simp only [Act.put, List.getElem_toArray, List.getElem_cons_succ, List.getElem_cons_zero, List.setIfInBounds_toArray, List.set_cons_zero, List.set_cons_succ]
                            refine wpAnyU_take (i := 10) [11, 12, 13, 14, 15, 16, 17, 18, 19, 20, 21, 22, 23, 24] rfl (by as_aux_lemma => kernel_rfl) (by as_aux_lemma => kernel_rfl) (by as_aux_lemma => kernel_rfl) (by as_aux_lemma => kernel_rfl) (by as_aux_lemma => kernel_rfl) (by as_aux_lemma => kernel_rfl) (fun _ _ _ h => h) (Or.inl ⟨by rfl, (by intro W hSW; (try dsimp only at hSW); (try go_split_ands); go_simp <;> with_reducible rfl)⟩) hS0 ?_
                            try simp only [Act.put, List.getElem_toArray, List.getElem_cons_succ, List.getElem_cons_zero, List.setIfInBounds_toArray, List.set_cons_zero, List.set_cons_succ]
                            refine wpAnyU_take (i := 11) [12, 13, 14, 15, 16, 17, 18, 19, 20, 21, 22, 23, 24] rfl (by as_aux_lemma => kernel_rfl) (by as_aux_lemma => kernel_rfl) (by as_aux_lemma => kernel_rfl) (by as_aux_lemma => kernel_rfl) (by as_aux_lemma => kernel_rfl) (by as_aux_lemma => kernel_rfl) (fun _ _ _ h => h) (Or.inl ⟨by rfl, (by intro W hSW; (try dsimp only at hSW); (try go_split_ands); go_simp <;> with_reducible rfl)⟩) hS0 ?_
                            try simp only [Act.put, List.getElem_toArray, List.getElem_cons_succ, List.getElem_cons_zero, List.setIfInBounds_toArray, List.set_cons_zero, List.set_cons_succ]
                            refine wpAnyU_take (i := 12) [14, 15, 16, 22, 23, 24] rfl (by as_aux_lemma => kernel_rfl) (by as_aux_lemma => kernel_rfl) (by as_aux_lemma => kernel_rfl) (by as_aux_lemma => kernel_rfl) (by as_aux_lemma => kernel_rfl) (by as_aux_lemma => kernel_rfl) (fun _ _ _ h => h) (by first | exact Or.inl ⟨by rfl, (by intro W hSW; (try dsimp only at hSW); (try go_split_ands); go_simp <;> with_reducible rfl)⟩ | exact Or.inr ⟨by rfl, rfl⟩) hS0 ?_
                            try simp only [Act.put, List.getElem_toArray, List.getElem_cons_succ, List.getElem_cons_zero, List.setIfInBounds_toArray, List.set_cons_zero, List.set_cons_succ]
                            refine wpAnyU_take (i := 13) [14, 15, 16, 22, 23, 24] rfl (by as_aux_lemma => kernel_rfl) (by as_aux_lemma => kernel_rfl) (by as_aux_lemma => kernel_rfl) (by as_aux_lemma => kernel_rfl) (by as_aux_lemma => kernel_rfl) (by as_aux_lemma => kernel_rfl) (fun _ _ _ h => h) (by first | exact Or.inl ⟨by rfl, (by intro W hSW; (try dsimp only at hSW); (try go_split_ands); go_simp <;> with_reducible rfl)⟩ | exact Or.inr ⟨by rfl, rfl⟩) hS0 ?_
                            try simp only [Act.put, List.getElem_toArray, List.getElem_cons_succ, List.getElem_cons_zero, List.setIfInBounds_toArray, List.set_cons_zero, List.set_cons_succ]
                            refine wpAnyU_take (i := 14) [15, 16, 22, 23, 24] rfl (by as_aux_lemma => kernel_rfl) (by as_aux_lemma => kernel_rfl) (by as_aux_lemma => kernel_rfl) (by as_aux_lemma => kernel_rfl) (by as_aux_lemma => kernel_rfl) (by as_aux_lemma => kernel_rfl) (fun _ _ _ h => h) (by first | exact Or.inl ⟨by rfl, (by intro W hSW; (try dsimp only at hSW); (try go_split_ands); go_simp <;> with_reducible rfl)⟩ | exact Or.inr ⟨by rfl, rfl⟩) hS0 ?_
                            try simp only [Act.put, List.getElem_toArray, List.getElem_cons_succ, List.getElem_cons_zero, List.setIfInBounds_toArray, List.set_cons_zero, List.set_cons_succ]
                            refine wpAnyU_take (i := 15) [16, 22, 23, 24] rfl (by as_aux_lemma => kernel_rfl) (by as_aux_lemma => kernel_rfl) (by as_aux_lemma => kernel_rfl) (by as_aux_lemma => kernel_rfl) (by as_aux_lemma => kernel_rfl) (by as_aux_lemma => kernel_rfl) (fun _ _ _ h => h) (by first | exact Or.inl ⟨by rfl, (by intro W hSW; (try dsimp only at hSW); (try go_split_ands); go_simp <;> with_reducible rfl)⟩ | exact Or.inr ⟨by rfl, rfl⟩) hS0 ?_
                            try simp only [Act.put, List.getElem_toArray, List.getElem_cons_succ, List.getElem_cons_zero, List.setIfInBounds_toArray, List.set_cons_zero, List.set_cons_succ]
                            refine wpAnyU_take (i := 16) [22, 23, 24] rfl (by as_aux_lemma => kernel_rfl) (by as_aux_lemma => kernel_rfl) (by as_aux_lemma => kernel_rfl) (by as_aux_lemma => kernel_rfl) (by as_aux_lemma => kernel_rfl) (by as_aux_lemma => kernel_rfl) (fun _ _ _ h => h) (by first | exact Or.inl ⟨by rfl, (by intro W hSW; (try dsimp only at hSW); (try go_split_ands); go_simp <;> with_reducible rfl)⟩ | exact Or.inr ⟨by rfl, rfl⟩) hS0 ?_
                            try simp only [Act.put, List.getElem_toArray, List.getElem_cons_succ, List.getElem_cons_zero, List.setIfInBounds_toArray, List.set_cons_zero, List.set_cons_succ]
                            refine wpAnyU_take (i := 17) [19, 20, 21, 22, 23, 24] rfl (by as_aux_lemma => kernel_rfl) (by as_aux_lemma => kernel_rfl) (by as_aux_lemma => kernel_rfl) (by as_aux_lemma => kernel_rfl) (by as_aux_lemma => kernel_rfl) (by as_aux_lemma => kernel_rfl) (fun _ _ _ h => h) (by first | exact Or.inl ⟨by rfl, (by intro W hSW; (try dsimp only at hSW); (try go_split_ands); go_simp <;> with_reducible rfl)⟩ | exact Or.inr ⟨by rfl, rfl⟩) hS0 ?_
                            try simp only [Act.put, List.getElem_toArray, List.getElem_cons_succ, List.getElem_cons_zero, List.setIfInBounds_toArray, List.set_cons_zero, List.set_cons_succ]
                            refine wpAnyU_take (i := 18) [19, 20, 21, 22, 23, 24] rfl (by as_aux_lemma => kernel_rfl) (by as_aux_lemma => kernel_rfl) (by as_aux_lemma => kernel_rfl) (by as_aux_lemma => kernel_rfl) (by as_aux_lemma => kernel_rfl) (by as_aux_lemma => kernel_rfl) (fun _ _ _ h => h) (by first | exact Or.inl ⟨by rfl, (by intro W hSW; (try dsimp only at hSW); (try go_split_ands); go_simp <;> with_reducible rfl)⟩ | exact Or.inr ⟨by rfl, rfl⟩) hS0 ?_
                            try simp only [Act.put, List.getElem_toArray, List.getElem_cons_succ, List.getElem_cons_zero, List.setIfInBounds_toArray, List.set_cons_zero, List.set_cons_succ]
                            refine wpAnyU_take (i := 19) [20, 21, 22, 23, 24] rfl (by as_aux_lemma => kernel_rfl) (by as_aux_lemma => kernel_rfl) (by as_aux_lemma => kernel_rfl) (by as_aux_lemma => kernel_rfl) (by as_aux_lemma => kernel_rfl) (by as_aux_lemma => kernel_rfl) (fun _ _ _ h => h) (by first | exact Or.inl ⟨by rfl, (by intro W hSW; (try dsimp only at hSW); (try go_split_ands); go_simp <;> with_reducible rfl)⟩ | exact Or.inr ⟨by rfl, rfl⟩) hS0 ?_
                            try simp only [Act.put, List.getElem_toArray, List.getElem_cons_succ, List.getElem_cons_zero, List.setIfInBounds_toArray, List.set_cons_zero, List.set_cons_succ]
                            refine wpAnyU_take (i := 20) [21, 22, 23, 24] rfl (by as_aux_lemma => kernel_rfl) (by as_aux_lemma => kernel_rfl) (by as_aux_lemma => kernel_rfl) (by as_aux_lemma => kernel_rfl) (by as_aux_lemma => kernel_rfl) (by as_aux_lemma => kernel_rfl) (fun _ _ _ h => h) (by first | exact Or.inl ⟨by rfl, (by intro W hSW; (try dsimp only at hSW); (try go_split_ands); go_simp <;> with_reducible rfl)⟩ | exact Or.inr ⟨by rfl, rfl⟩) hS0 ?_
                            try simp only [Act.put, List.getElem_toArray, List.getElem_cons_succ, List.getElem_cons_zero, List.setIfInBounds_toArray, List.set_cons_zero, List.set_cons_succ]
                            refine wpAnyU_take (i := 21) [22, 23, 24] rfl (by as_aux_lemma => kernel_rfl) (by as_aux_lemma => kernel_rfl) (by as_aux_lemma => kernel_rfl) (by as_aux_lemma => kernel_rfl) (by as_aux_lemma => kernel_rfl) (by as_aux_lemma => kernel_rfl) (fun _ _ _ h => h) (by first | exact Or.inl ⟨by rfl, (by intro W hSW; (try dsimp only at hSW); (try go_split_ands); go_simp <;> with_reducible rfl)⟩ | exact Or.inr ⟨by rfl, rfl⟩) hS0 ?_
                            try simp only [Act.put, List.getElem_toArray, List.getElem_cons_succ, List.getElem_cons_zero, List.setIfInBounds_toArray, List.set_cons_zero, List.set_cons_succ]
                            refine wpAnyU_one (i := 22) (by kernel_rfl) rfl (fun K hK => ?_)
                            go_simp
                            refine hK.out _ _ (fun _ => hS0) (fun _ => ?_)
                            clear hK K
                            try simp only [Act.put, List.getElem_toArray, List.getElem_cons_succ, List.getElem_cons_zero, List.setIfInBounds_toArray, List.set_cons_zero, List.set_cons_succ]
                            refine wpAnyU_take (i := 23) [24] rfl (by as_aux_lemma => kernel_rfl) (by as_aux_lemma => kernel_rfl) (by as_aux_lemma => kernel_rfl) (by as_aux_lemma => kernel_rfl) (by as_aux_lemma => kernel_rfl) (by as_aux_lemma => kernel_rfl) (fun _ _ _ h => h) (by first | exact Or.inl ⟨by rfl, (by intro W hSW; (try dsimp only at hSW); (try go_split_ands); go_simp <;> with_reducible rfl)⟩ | exact Or.inr ⟨by rfl, rfl⟩) hS0 ?_
                            try simp only [Act.put, List.getElem_toArray, List.getElem_cons_succ, List.getElem_cons_zero, List.setIfInBounds_toArray, List.set_cons_zero, List.set_cons_succ]
                            refine wpAnyU_take (i := 24) [] rfl (by as_aux_lemma => kernel_rfl) (by as_aux_lemma => kernel_rfl) (by as_aux_lemma => kernel_rfl) (by as_aux_lemma => kernel_rfl) (by as_aux_lemma => kernel_rfl) (by as_aux_lemma => kernel_rfl) (fun _ _ _ h => h) (Or.inl ⟨by rfl, (by intro W hSW; (try dsimp only at hSW); (try go_split_ands); go_simp <;> with_reducible rfl)⟩) hS0 ?_
                            try simp only [Act.put, List.getElem_toArray, List.getElem_cons_succ, List.getElem_cons_zero, List.setIfInBounds_toArray, List.set_cons_zero, List.set_cons_succ]
                            refine wpAnyU_done (by kernel_rfl) ?_ _
                            clear hS0
                            go_wp2
                            go_roundw
                            case rel => exact ⟨y + 1, by rw [HWY.out], HK1.out.2.1, HK1.out.2.2⟩
                            case measure => exact meas_up HWY.out HK1.out.2.1
                        · have hyy : ¬ (y : Int) < (bn : Int) := by omega
                          have HB := Lib.hid hby
                          clear hby hyb hylt
                          go_wp2
                          go_roundw
                          case rel => exact ⟨x + 1, by rw [HWX.out], HX1.out.2.1, HB.out⟩
                          case measure => exact meas_up HWX.out HX1.out.2.1
                    · have hxx : ¬ (x : Int) < (an : Int) := by omega
                      have HB : Hid (Below w6.heap.size w6 wr) := HB7.out.1.trans (hbx.mono HB7.out.1.size)
                      clear hbx hxa hxlt
                      go_wp2
                      go_roundw
                      case rel => exact ⟨k + 1, by rw [HWK.out], HK.out.2.2.1, HB.out⟩
                      case measure => exact meas_up HWK.out HK.out.2.2.1
              · have hkk : ¬ (k : Int) < (j : Int) := by omega
                have HB : Hid (Below ws.heap.size ws wr) := hbk6
                clear hbk hkj hklt hbk6
                go_wp2
                go_roundw
                case rel => exact ⟨j + 1, by rw [HWJ.out], HX.out.2.2.1, HB.out⟩
                case measure => exact meas_up HWJ.out HX.out.2.2.1)
        · have hjj : ¬ (j : Int) < (i : Int) := by omega
          have HB : Hid (Below w.heap.size w wr) := HS.out.2.2.trans (hbx.mono HS.out.2.2.size)
          clear hbx hji hjlt
          go_wp2
          go_ret
          exact ⟨rfl, HB.out⟩
end Mun
