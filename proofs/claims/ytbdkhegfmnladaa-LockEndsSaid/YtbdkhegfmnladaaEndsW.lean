/- The walk of LockEnds. -/
import Derived.Test.YtbdkhegfmnladaaEndsP
import Derived.Test.YtbdkhegfmnladaaTbU
import Derived.Test.YtbdkhegfmnladaaMgM
import Derived.Test.YtbdkhegfmnladaaLockG
import Derived.Test.YtbdkhegfmnladaaMgA
import Derived.Deep.DeepCutAuto
set_option maxRecDepth 100000
set_option linter.unusedVariables false
set_option linter.unusedSimpArgs false
namespace Mun
open Go Go.RowKit
open Go.Proofs

/-- a table, and the row of the owners so far -/
structure EnAt (W1 w : World) (T : Nat) (t : TV) (A : AS) (c : Nat) (ol : List (Int × Int)) (v : Value) : Prop where
  sd : Sd W1 w T t A c
  row : OutRow W1.heap.size ol w t v
/-- the law's own copy of a deed -/
structure BxE (w : World) (D : Nat) (op o : Int) (s : ByteArray) (m : Int) (t : TV) : Prop where
  blk : w.heap[D]? = some (.cells #[.int .i64 op, .int .u64 o, .string s, .int .i64 m] 42 (0, 0))
  nt : ¬ tfoot t D
section
variable {W1 w w' : World} {T c c' D : Nat} {t t' : TV} {A A' : AS} {ol : List (Int × Int)} {v : Value} {op o m : Int} {s : ByteArray}
theorem EnAt.below (h : EnAt W1 w T t A c ol v) (hb : Below w.heap.size w w') : EnAt W1 w' T t A c ol v := ⟨h.sd.below hb, h.row.below hb⟩
theorem EnAt.stp (h : EnAt W1 w T t A c ol v) (k : Stp w t w' t') (h2 : Sd W1 w' T t' A' c') : EnAt W1 w' T t' A' c' ol v := ⟨h2, h.row.step k⟩
theorem EnAt.mono (h : EnAt W1 w T t A c ol v) (hc : c ≤ c') : EnAt W1 w T t A c' ol v := ⟨h.sd.mono hc, h.row⟩
theorem BxE.below (h : BxE w D op o s m t) (hb : Below w.heap.size w w') : BxE w' D op o s m t := ⟨(hb.block D (lt_of_block h.blk)).trans h.blk, h.nt⟩
theorem BxE.stp (h : BxE w D op o s m t) (k : Stp w t w' t') : BxE w' D op o s m t' := ⟨k.block h.blk h.nt, k.nfoot (lt_of_block h.blk) h.nt⟩
theorem BxE.c0 (h : BxE w D op o s m t) : w.cell? ⟨D, 0, none⟩ = some (.int .i64 op) := cell_of_row w D 0 _ _ _ h.blk
theorem BxE.c1 (h : BxE w D op o s m t) : w.cell? ⟨D, 1, none⟩ = some (.int .u64 o) := cell_of_row w D 1 _ _ _ h.blk
theorem BxE.c2 (h : BxE w D op o s m t) : w.cell? ⟨D, 2, none⟩ = some (.string s) := cell_of_row w D 2 _ _ _ h.blk
theorem BxE.c3 (h : BxE w D op o s m t) : w.cell? ⟨D, 3, none⟩ = some (.int .i64 m) := cell_of_row w D 3 _ _ _ h.blk
/-- one owner more -/
theorem EnAt.push (h : EnAt W1 w T t A c ol v) (hx : BxE w D op o s m t) (a : Int × Int) (hl : ol.length < 8796093022200) :
    ∃ R cp w', (Builtin.append_ #[36, 36] 36 #[v, .slice (some ⟨w.heap.size, 0, none⟩) 1 1]).run Try.prog (w.alloc (.cells #[.int .u64 a.1] 29)) = .ok (.slice (some ⟨R, 0, none⟩) (ol.length + 1) cp) w' ∧
      EnAt W1 w' T t A c (ol ++ [a]) (.slice (some ⟨R, 0, none⟩) (ol.length + 1) cp) ∧ BxE w' D op o s m t := by
  obtain ⟨R, cp, w', hrun, hrow, z1, z2, z3, z4, z5, z6⟩ := push_o2 (ty := 36) a h.row.row h.sd.bl.size hl
  have hnR : ¬ tfoot t R := z6.elim (fun e => h.row.nf R e) (fun e => h.sd.tab.nfoot_new e)
  refine ⟨R, cp, w', hrun, ⟨h.sd.turn z1 z2 z3 z4 (fun k hk hor => z5 k hk (fun e => ?_)), hrow, fun k hk => by simp [Value.ownBlock] at hk; subst hk; exact hnR⟩, (z5 D (lt_of_block hx.blk) (fun e => ?_)).trans hx.blk, hx.nt⟩
  · rcases hor with h9 | h9
    · have := (h.row.row.lt k e).1; omega
    · exact h.row.nf k e h9
  · obtain ⟨cur, h9⟩ := rowU_blk h.row.row e
    have h8 := hx.blk
    rw [h9] at h8
    injection h8 with h8
    injection h8 with _ h8 _
    exact absurd h8 (by decide)
/-- an owner's cell -/
theorem ol_at {B : Nat} {a : Option Addr} {n cc : Nat} (h : w.ownsRow B 29 1 (.slice a n cc) ol.length (ov ol)) (hn : ol.length = n) (i : Nat) (hi : i < ol.length) :
    ∃ g off, a = some ⟨g, off, none⟩ ∧ ∀ W, Below w.heap.size w W → W.cell? ⟨g, off + i, none⟩ = some (.int .u64 ol[i].1) := by
  have h2 := h
  rw [hn] at h2
  obtain ⟨g, off, c', hv, -, -, -, hg, hc⟩ := (RdV.of_own (F := NoF) h2 (fun _ _ => noF _)).at_ (by omega)
  injection hv with e1 e2 e3
  refine ⟨g, off, e1, fun W hb => ?_⟩
  have hx := hc i (.int .u64 ol[i].1) (by simp [ov, hi])
  rw [World.cell?_of_block (hb.block g hg)]
  exact hx
theorem EnAt.form (h : EnAt W1 w T t A c ol v) : ∃ a cc, v = .slice a ol.length cc := by
  rcases h.row.row.2 with ⟨rfl, h0⟩ | ⟨g, cap, cur, rfl, -⟩
  · exact ⟨none, 0, by rw [h0]⟩
  · exact ⟨_, _, rfl⟩
end
theorem no_ring {A : AS} {o v : Int} (h : A.Victim o v false) : ¬ A.Reach o o := by
  rcases h with ⟨-, -, h⟩ | ⟨h, -⟩
  · exact h
  · cases h
theorem held_no {w w' : World} {A : AS} {o : Int} {c : Nat} {e : Ending} (h : HePost w A o c e w') (hn : ∀ s, A.H s o = none) : ∃ a cc, e = .returned (.slice a 0 cc) ∧ Below w.heap.size w w' := by
  obtain ⟨v, ns, rfl, h1, h2, h3, h4, hrow, hb⟩ := h
  have hns : ns = [] := by
    cases ns with
    | nil => rfl
    | cons s l => exact absurd (hn s) ((h3 s).1 (by simp))
  subst hns
  rcases hrow.2 with ⟨rfl, -⟩ | ⟨g, cap, cur, rfl, -⟩
  · exact ⟨_, _, rfl, hb⟩
  · exact ⟨_, _, rfl, hb⟩
theorem key_at {ol : List (Int × Int)} {j : Nat} (hj : j < ol.length) : (ol.map (·.1))[j]? = some ol[j].1 := by rw [List.getElem?_map, List.getElem?_eq_getElem hj]; rfl
theorem take_known {ol : List (Int × Int)} {x : Int} {j : Nat} (hj : j < ol.length) : decide (x ∈ (ol.take (j + 1)).map (·.1)) = (decide (x ∈ (ol.take j).map (·.1)) || (ol[j].1 == x)) := by
  rw [List.take_add_one, List.getElem?_eq_getElem hj, List.map_append, Option.toList_some, List.map_singleton]
  by_cases e : ol[j].1 = x
  · simp [e]
  · have : ¬ x = ol[j].1 := fun h => e h.symm
    simp [e, this]

set_option maxHeartbeats 4000000 in
theorem ends_any (w : World) (v : Value) (l : List LDeed) (hv : LDeedsAt NoF w v l) (hl : l.length ≤ 3518437208882) :
    Calls Try.prog 8 #[v] w fun e w' => e = .returned (.bool true) ∧ Below w.heap.size w w' := by
  obtain ⟨va, vc, rfl, -, -⟩ := hv.row.form
  have haw := awake14 w
  have HV := Lib.hid (And.intro hv hl)
  obtain ⟨n, HN⟩ : ∃ n, Hid (l.length = n) := ⟨_, rfl⟩
  rw [HN.out]
  clear hv hl
  go_enter Try.func8, Try.ntmps8
  go_wp2_with fail
  refine haw.mono ?_
  rintro e w1 ⟨rfl, hb1⟩
  have HB1 := Lib.hid hb1
  have hnew := sd_new w1
  have HNEW := Lib.hid hnew
  clear hb1 hnew haw
  go_wp2_with fail
  refine HNEW.out.mono ?_
  rintro e w2 ⟨t, rfl, hb2, ht⟩
  obtain ⟨T, hT⟩ : ∃ T, t.T = T := ⟨_, rfl⟩
  rw [hT] at ht ⊢
  have HT : Hid (EnAt w1 w2 T t AS.none 0 [] (.slice none 0 0)) := ⟨ht, World.ownsRow_nil _ _ _ _, fun k hk => by cases hk⟩
  clear HNEW hT hb2 ht
  have HNB : Hid (n ≤ 3518437208882) := by show _ ≤ _; have := HV.out.2; have := HN.out; omega
  go_wp2_with fail
  go_loopw [4, 5] (fun ov_ iv wr => ∃ (i : Nat) (oa : Option Addr) (on oc : Nat) (t : TV) (A : AS) (ol : List (Int × Int)), iv = .int .i64 i ∧ ov_ = .slice oa on oc ∧ ol.length = on ∧ on ≤ i ∧ i ≤ n ∧ EnAt w1 wr T t A i ol (.slice oa on oc) ∧ EndI A (ol.map (·.1))) (fun _ iv _ => n - (Go.RowKit.intOf iv).toNat)
  case atStart => exact ⟨0, none, 0, 0, t, _, [], rfl, rfl, rfl, Nat.zero_le _, Nat.zero_le _, HT.out, EndI.none _⟩
  case round =>
    obtain ⟨i, oa, on, oc, t, A, ol, rfl, rfl, hon, hoi, hin, hat, hen⟩ := hrel
    have hb : Below w.heap.size w wr := HB1.out.trans (hat.sd.bl.mono HB1.out.size)
    by_cases hlt : i < n
    · have hil : i < l.length := by rw [HN.out]; exact hlt
      obtain ⟨g, off, c', hvv, k0, k1, k2, k3⟩ := (HV.out.1.below hb).at_ i hil
      rw [HN.out] at hvv
      injection hvv with e1 e2 e3
      subst e1
      have hdk := HV.out.1.ok _ (List.getElem_mem hil)
      obtain ⟨x, hx⟩ : ∃ x, l[i] = x := ⟨_, rfl⟩
      rw [hx] at k0 k1 k2 k3 hdk
      obtain ⟨xop, xo, xs, xm⟩ := x
      obtain ⟨-, -, hxs, -⟩ := hdk
      simp only at k0 k1 k2 k3 hxs
      have hii : (i : Int) < (n : Int) := by omega
      have hi0 : (0 : Int) ≤ (i : Int) := by omega
      obtain ⟨D, hD⟩ : ∃ D, wr.heap.size = D := ⟨_, rfl⟩
      obtain ⟨wA, hwA⟩ : ∃ wA, wr.alloc (.cells #[.int .i64 xop, .int .u64 xo, .string xs, .int .i64 xm] 42) = wA := ⟨_, rfl⟩
      have hbA : Below wr.heap.size wr wA := by rw [← hwA]; exact (Below.refl _ _).alloc (Nat.le_refl _) _
      have kA : wA.heap[D]? = some (.cells #[.int .i64 xop, .int .u64 xo, .string xs, .int .i64 xm] 42 (0, 0)) := by rw [← hwA, ← hD]; exact heap_alloc_new wr _
      have hbx : BxE wA D xop xo xs xm t := ⟨kA, hat.sd.tab.nfoot_new (by omega)⟩
      have z0 := hbx.c0
      have z1 := hbx.c1
      have HX := Lib.hid (And.intro (hat.below hbA) (And.intro hbx (And.intro hen (And.intro hlt (And.intro hon hoi)))))
      have HXS : Hid (xs.size ≤ maxLen) := by show _ ≤ _; unfold maxLen; omega
      have HWJ : Hid (wrap64 ((i : Int) + 1) = ((i + 1 : Nat) : Int)) := by show _ = _; have := HNB.out; unfold wrap64; omega
      clear kA hbA hlt hin hxs hx hil hb hat e2 e3 hen hbx hon hoi
      by_cases h4 : xop > 4
      · go_wp2
        go_roundw
        case rel => exact ⟨i + 1, oa, on, oc, t, A, ol, by rw [HWJ.out], rfl, HX.out.2.2.2.2.1, by have := HX.out.2.2.2.2.2; omega, HX.out.2.2.2.1, HX.out.1.mono (Nat.le_succ _), HX.out.2.2.1⟩
        case measure => exact meas_up HWJ.out HX.out.2.2.2.1
      · by_cases h00 : xo = 0
        · subst h00
          have hzz : ((0 : Int) == 0) = true := by decide
          go_wp2
          go_roundw
          case rel => exact ⟨i + 1, oa, on, oc, t, A, ol, by rw [HWJ.out], rfl, HX.out.2.2.2.2.1, by have := HX.out.2.2.2.2.2; omega, HX.out.2.2.2.1, HX.out.1.mono (Nat.le_succ _), HX.out.2.2.1⟩
          case measure => exact meas_up HWJ.out HX.out.2.2.2.1
        · have hzz : (xo == 0) = false := by simp [h00]
          clear h00
          go_wp2_with fail
          clear k0 k1 k2 k3 z0
          go_loopw [7, 8] (fun kv jv wr => ∃ (b : Bool) (j : Nat), kv = .bool b ∧ jv = .int .i64 j ∧ j ≤ on ∧ b = decide (xo ∈ (ol.take j).map (·.1)) ∧ Below wA.heap.size wA wr) (fun _ jv _ => on - (Go.RowKit.intOf jv).toNat)
          case atStart => exact ⟨false, 0, rfl, rfl, Nat.zero_le _, by simp, Below.refl _ _⟩
          case round =>
            obtain ⟨b, j, rfl, rfl, hjo, hbj, hbr⟩ := hrel
            by_cases hjlt : j < on
            · have hjl : j < ol.length := by rw [HX.out.2.2.2.2.1]; exact hjlt
              obtain ⟨og, oo, rfl, hco⟩ := ol_at HX.out.1.row.row HX.out.2.2.2.2.1 j hjl
              have hbd : Below wA.heap.size wA wr.drew := hbr.trans ((below_drewN (Below.refl _ _) 1 : Below wr.heap.size wr wr.drew).mono hbr.size)
              have hS0 : wr.drew.cell? ⟨og, oo + j, none⟩ = some (.int .u64 ol[j].1) ∧ wr.drew.cell? ⟨D, 1, none⟩ = some (.int .u64 xo) := ⟨hco _ hbd, (HX.out.2.1.below hbd).c1⟩
              obtain ⟨oj, hoj⟩ : ∃ oj, ol[j].1 = oj := ⟨_, rfl⟩
              rw [hoj] at hS0
              have htk := take_known (x := xo) hjl
              rw [hoj, ← hbj] at htk
              have hjj : (j : Int) < (on : Int) := by omega
              have hj0 : (0 : Int) ≤ (j : Int) := by omega
              have HWK : Hid (wrap64 ((j : Int) + 1) = ((j + 1 : Nat) : Int)) := by show _ = _; have := HNB.out; have := HX.out.2.2.2.2.2; have := HX.out.2.2.2.1; unfold wrap64; omega
              have HK := Lib.hid (And.intro hbd (And.intro htk hjlt))
              clear hbd hbr hco hoj htk hjlt hjo hbj z1
              cases b with
              | true =>
                go_upto_region 14 with (fail)
                refine wp_region_U (fun W => W.cell? ⟨og, oo + j, none⟩ = some (.int .u64 oj) ∧ W.cell? ⟨D, 1, none⟩ = some (.int .u64 xo)) [] (by kernel_rfl) ?_
                refine wpAnyU_take (i := 0) [1, 2, 3, 4, 5, 6, 7, 8, 9, 10] rfl (by as_aux_lemma => kernel_rfl) (by as_aux_lemma => kernel_rfl) (by as_aux_lemma => kernel_rfl) (by as_aux_lemma => kernel_rfl) (by as_aux_lemma => kernel_rfl) (by as_aux_lemma => kernel_rfl) (fun _ _ _ h => h) (Or.inl ⟨by rfl, (by intro W hSW; (try dsimp only at hSW); (try go_split_ands); go_simp <;> with_reducible rfl)⟩) hS0 ?_
                try simp only [Act.put, List.getElem_toArray, List.getElem_cons_succ, List.getElem_cons_zero, List.setIfInBounds_toArray, List.set_cons_zero, List.set_cons_succ]
                refine wpAnyU_take (i := 1) [2, 3, 4, 5, 6, 7, 8, 9, 10] rfl (by as_aux_lemma => kernel_rfl) (by as_aux_lemma => kernel_rfl) (by as_aux_lemma => kernel_rfl) (by as_aux_lemma => kernel_rfl) (by as_aux_lemma => kernel_rfl) (by as_aux_lemma => kernel_rfl) (fun _ _ _ h => h) (Or.inl ⟨by rfl, (by intro W hSW; (try dsimp only at hSW); (try go_split_ands); go_simp <;> with_reducible rfl)⟩) hS0 ?_
                try simp only [Act.put, List.getElem_toArray, List.getElem_cons_succ, List.getElem_cons_zero, List.setIfInBounds_toArray, List.set_cons_zero, List.set_cons_succ]
                refine wpAnyU_take (i := 2) [4, 5, 8, 9, 10] rfl (by as_aux_lemma => kernel_rfl) (by as_aux_lemma => kernel_rfl) (by as_aux_lemma => kernel_rfl) (by as_aux_lemma => kernel_rfl) (by as_aux_lemma => kernel_rfl) (by as_aux_lemma => kernel_rfl) (fun _ _ _ h => h) (by first | exact Or.inl ⟨by rfl, (by intro W hSW; (try dsimp only at hSW); (try go_split_ands); go_simp <;> with_reducible rfl)⟩ | exact Or.inr ⟨by rfl, rfl⟩) hS0 ?_
                try simp only [Act.put, List.getElem_toArray, List.getElem_cons_succ, List.getElem_cons_zero, List.setIfInBounds_toArray, List.set_cons_zero, List.set_cons_succ]
                refine wpAnyU_take (i := 3) [4, 5, 8, 9, 10] rfl (by as_aux_lemma => kernel_rfl) (by as_aux_lemma => kernel_rfl) (by as_aux_lemma => kernel_rfl) (by as_aux_lemma => kernel_rfl) (by as_aux_lemma => kernel_rfl) (by as_aux_lemma => kernel_rfl) (fun _ _ _ h => h) (by first | exact Or.inl ⟨by rfl, (by intro W hSW; (try dsimp only at hSW); (try go_split_ands); go_simp <;> with_reducible rfl)⟩ | exact Or.inr ⟨by rfl, rfl⟩) hS0 ?_
                try simp only [Act.put, List.getElem_toArray, List.getElem_cons_succ, List.getElem_cons_zero, List.setIfInBounds_toArray, List.set_cons_zero, List.set_cons_succ]
                refine wpAnyU_take (i := 4) [5, 8, 9, 10] rfl (by as_aux_lemma => kernel_rfl) (by as_aux_lemma => kernel_rfl) (by as_aux_lemma => kernel_rfl) (by as_aux_lemma => kernel_rfl) (by as_aux_lemma => kernel_rfl) (by as_aux_lemma => kernel_rfl) (fun _ _ _ h => h) (by first | exact Or.inl ⟨by rfl, (by intro W hSW; (try dsimp only at hSW); (try go_split_ands); go_simp <;> with_reducible rfl)⟩ | exact Or.inr ⟨by rfl, rfl⟩) hS0 ?_
                try simp only [Act.put, List.getElem_toArray, List.getElem_cons_succ, List.getElem_cons_zero, List.setIfInBounds_toArray, List.set_cons_zero, List.set_cons_succ]
                refine wpAnyU_take (i := 5) [8, 9, 10] rfl (by as_aux_lemma => kernel_rfl) (by as_aux_lemma => kernel_rfl) (by as_aux_lemma => kernel_rfl) (by as_aux_lemma => kernel_rfl) (by as_aux_lemma => kernel_rfl) (by as_aux_lemma => kernel_rfl) (fun _ _ _ h => h) (by first | exact Or.inl ⟨by rfl, (by intro W hSW; (try dsimp only at hSW); (try go_split_ands); go_simp <;> with_reducible rfl)⟩ | exact Or.inr ⟨by rfl, rfl⟩) hS0 ?_
                try simp only [Act.put, List.getElem_toArray, List.getElem_cons_succ, List.getElem_cons_zero, List.setIfInBounds_toArray, List.set_cons_zero, List.set_cons_succ]
                refine wpAnyU_take (i := 6) [7, 8, 9, 10] rfl (by as_aux_lemma => kernel_rfl) (by as_aux_lemma => kernel_rfl) (by as_aux_lemma => kernel_rfl) (by as_aux_lemma => kernel_rfl) (by as_aux_lemma => kernel_rfl) (by as_aux_lemma => kernel_rfl) (fun _ _ _ h => h) (by first | exact Or.inl ⟨by rfl, (by intro W hSW; (try dsimp only at hSW); (try go_split_ands); go_simp <;> with_reducible rfl)⟩ | exact Or.inr ⟨by rfl, rfl⟩) hS0 ?_
                try simp only [Act.put, List.getElem_toArray, List.getElem_cons_succ, List.getElem_cons_zero, List.setIfInBounds_toArray, List.set_cons_zero, List.set_cons_succ]
                refine wpAnyU_take (i := 7) [8, 9, 10] rfl (by as_aux_lemma => kernel_rfl) (by as_aux_lemma => kernel_rfl) (by as_aux_lemma => kernel_rfl) (by as_aux_lemma => kernel_rfl) (by as_aux_lemma => kernel_rfl) (by as_aux_lemma => kernel_rfl) (fun _ _ _ h => h) (by first | exact Or.inl ⟨by rfl, (by intro W hSW; (try dsimp only at hSW); (try go_split_ands); go_simp <;> with_reducible rfl)⟩ | exact Or.inr ⟨by rfl, rfl⟩) hS0 ?_
                try simp only [Act.put, List.getElem_toArray, List.getElem_cons_succ, List.getElem_cons_zero, List.setIfInBounds_toArray, List.set_cons_zero, List.set_cons_succ]
                refine wpAnyU_take (i := 8) [9, 10] rfl (by as_aux_lemma => kernel_rfl) (by as_aux_lemma => kernel_rfl) (by as_aux_lemma => kernel_rfl) (by as_aux_lemma => kernel_rfl) (by as_aux_lemma => kernel_rfl) (by as_aux_lemma => kernel_rfl) (fun _ _ _ h => h) (by first | exact Or.inl ⟨by rfl, (by intro W hSW; (try dsimp only at hSW); (try go_split_ands); go_simp <;> with_reducible rfl)⟩ | exact Or.inr ⟨by rfl, rfl⟩) hS0 ?_
                try simp only [Act.put, List.getElem_toArray, List.getElem_cons_succ, List.getElem_cons_zero, List.setIfInBounds_toArray, List.set_cons_zero, List.set_cons_succ]
                refine wpAnyU_take (i := 9) [10] rfl (by as_aux_lemma => kernel_rfl) (by as_aux_lemma => kernel_rfl) (by as_aux_lemma => kernel_rfl) (by as_aux_lemma => kernel_rfl) (by as_aux_lemma => kernel_rfl) (by as_aux_lemma => kernel_rfl) (fun _ _ _ h => h) (Or.inl ⟨by rfl, (by intro W hSW; (try dsimp only at hSW); (try go_split_ands); go_simp <;> with_reducible rfl)⟩) hS0 ?_
                try simp only [Act.put, List.getElem_toArray, List.getElem_cons_succ, List.getElem_cons_zero, List.setIfInBounds_toArray, List.set_cons_zero, List.set_cons_succ]
                refine wpAnyU_take (i := 10) [] rfl (by as_aux_lemma => kernel_rfl) (by as_aux_lemma => kernel_rfl) (by as_aux_lemma => kernel_rfl) (by as_aux_lemma => kernel_rfl) (by as_aux_lemma => kernel_rfl) (by as_aux_lemma => kernel_rfl) (fun _ _ _ h => h) (Or.inl ⟨by rfl, (by intro W hSW; (try dsimp only at hSW); (try go_split_ands); go_simp <;> with_reducible rfl)⟩) hS0 ?_
                try simp only [Act.put, List.getElem_toArray, List.getElem_cons_succ, List.getElem_cons_zero, List.setIfInBounds_toArray, List.set_cons_zero, List.set_cons_succ]
                refine wpAnyU_done (by kernel_rfl) ?_ _
                clear hS0
                go_wp2
                go_roundw
                case rel => exact ⟨true, j + 1, rfl, by rw [HWK.out], HK.out.2.2, by rw [HK.out.2.1]; rfl, HK.out.1⟩
                case measure => exact meas_up HWK.out HK.out.2.2
              | false =>
                obtain ⟨qb, hqb⟩ : ∃ qb, (oj == xo) = qb := ⟨_, rfl⟩
                go_upto_region 14 with (fail)
                refine wp_region_U (fun W => W.cell? ⟨og, oo + j, none⟩ = some (.int .u64 oj) ∧ W.cell? ⟨D, 1, none⟩ = some (.int .u64 xo)) [] (by kernel_rfl) ?_
                refine wpAnyU_take (i := 0) [1, 2, 3, 4, 5, 6, 7, 8, 9, 10] rfl (by as_aux_lemma => kernel_rfl) (by as_aux_lemma => kernel_rfl) (by as_aux_lemma => kernel_rfl) (by as_aux_lemma => kernel_rfl) (by as_aux_lemma => kernel_rfl) (by as_aux_lemma => kernel_rfl) (fun _ _ _ h => h) (Or.inl ⟨by rfl, (by intro W hSW; (try dsimp only at hSW); (try go_split_ands); go_simp <;> with_reducible rfl)⟩) hS0 ?_
                try simp only [Act.put, List.getElem_toArray, List.getElem_cons_succ, List.getElem_cons_zero, List.setIfInBounds_toArray, List.set_cons_zero, List.set_cons_succ]
                refine wpAnyU_take (i := 1) [2, 3, 4, 5, 6, 7, 8, 9, 10] rfl (by as_aux_lemma => kernel_rfl) (by as_aux_lemma => kernel_rfl) (by as_aux_lemma => kernel_rfl) (by as_aux_lemma => kernel_rfl) (by as_aux_lemma => kernel_rfl) (by as_aux_lemma => kernel_rfl) (fun _ _ _ h => h) (Or.inl ⟨by rfl, (by intro W hSW; (try dsimp only at hSW); (try go_split_ands); go_simp <;> with_reducible rfl)⟩) hS0 ?_
                try simp only [Act.put, List.getElem_toArray, List.getElem_cons_succ, List.getElem_cons_zero, List.setIfInBounds_toArray, List.set_cons_zero, List.set_cons_succ]
                refine wpAnyU_take (i := 2) [4, 5, 8, 9, 10] rfl (by as_aux_lemma => kernel_rfl) (by as_aux_lemma => kernel_rfl) (by as_aux_lemma => kernel_rfl) (by as_aux_lemma => kernel_rfl) (by as_aux_lemma => kernel_rfl) (by as_aux_lemma => kernel_rfl) (fun _ _ _ h => h) (by first | exact Or.inl ⟨by rfl, (by intro W hSW; (try dsimp only at hSW); (try go_split_ands); go_simp <;> with_reducible rfl)⟩ | exact Or.inr ⟨by rfl, rfl⟩) hS0 ?_
                try simp only [Act.put, List.getElem_toArray, List.getElem_cons_succ, List.getElem_cons_zero, List.setIfInBounds_toArray, List.set_cons_zero, List.set_cons_succ]
                refine wpAnyU_take (i := 3) [4, 5, 8, 9, 10] rfl (by as_aux_lemma => kernel_rfl) (by as_aux_lemma => kernel_rfl) (by as_aux_lemma => kernel_rfl) (by as_aux_lemma => kernel_rfl) (by as_aux_lemma => kernel_rfl) (by as_aux_lemma => kernel_rfl) (fun _ _ _ h => h) (by first | exact Or.inl ⟨by rfl, (by intro W hSW; (try dsimp only at hSW); (try go_split_ands); go_simp <;> with_reducible rfl)⟩ | exact Or.inr ⟨by rfl, rfl⟩) hS0 ?_
                try simp only [Act.put, List.getElem_toArray, List.getElem_cons_succ, List.getElem_cons_zero, List.setIfInBounds_toArray, List.set_cons_zero, List.set_cons_succ]
                refine wpAnyU_take (i := 4) [5, 8, 9, 10] rfl (by as_aux_lemma => kernel_rfl) (by as_aux_lemma => kernel_rfl) (by as_aux_lemma => kernel_rfl) (by as_aux_lemma => kernel_rfl) (by as_aux_lemma => kernel_rfl) (by as_aux_lemma => kernel_rfl) (fun _ _ _ h => h) (by first | exact Or.inl ⟨by rfl, (by intro W hSW; (try dsimp only at hSW); (try go_split_ands); go_simp <;> with_reducible rfl)⟩ | exact Or.inr ⟨by rfl, rfl⟩) hS0 ?_
                try simp only [Act.put, List.getElem_toArray, List.getElem_cons_succ, List.getElem_cons_zero, List.setIfInBounds_toArray, List.set_cons_zero, List.set_cons_succ]
                refine wpAnyU_take (i := 5) [8, 9, 10] rfl (by as_aux_lemma => kernel_rfl) (by as_aux_lemma => kernel_rfl) (by as_aux_lemma => kernel_rfl) (by as_aux_lemma => kernel_rfl) (by as_aux_lemma => kernel_rfl) (by as_aux_lemma => kernel_rfl) (fun _ _ _ h => h) (by first | exact Or.inl ⟨by rfl, (by intro W hSW; (try dsimp only at hSW); (try go_split_ands); go_simp <;> with_reducible rfl)⟩ | exact Or.inr ⟨by rfl, rfl⟩) hS0 ?_
                try simp only [Act.put, List.getElem_toArray, List.getElem_cons_succ, List.getElem_cons_zero, List.setIfInBounds_toArray, List.set_cons_zero, List.set_cons_succ]
                refine wpAnyU_take (i := 6) [7, 8, 9, 10] rfl (by as_aux_lemma => kernel_rfl) (by as_aux_lemma => kernel_rfl) (by as_aux_lemma => kernel_rfl) (by as_aux_lemma => kernel_rfl) (by as_aux_lemma => kernel_rfl) (by as_aux_lemma => kernel_rfl) (fun _ _ _ h => h) (by first | exact Or.inl ⟨by rfl, (by intro W hSW; (try dsimp only at hSW); (try go_split_ands); go_simp <;> with_reducible rfl)⟩ | exact Or.inr ⟨by rfl, rfl⟩) hS0 ?_
                try simp only [Act.put, List.getElem_toArray, List.getElem_cons_succ, List.getElem_cons_zero, List.setIfInBounds_toArray, List.set_cons_zero, List.set_cons_succ]
                refine wpAnyU_take (i := 7) [8, 9, 10] rfl (by as_aux_lemma => kernel_rfl) (by as_aux_lemma => kernel_rfl) (by as_aux_lemma => kernel_rfl) (by as_aux_lemma => kernel_rfl) (by as_aux_lemma => kernel_rfl) (by as_aux_lemma => kernel_rfl) (fun _ _ _ h => h) (by first | exact Or.inl ⟨by rfl, (by intro W hSW; (try dsimp only at hSW); (try go_split_ands); go_simp <;> with_reducible rfl)⟩ | exact Or.inr ⟨by rfl, rfl⟩) hS0 ?_
                try simp only [Act.put, List.getElem_toArray, List.getElem_cons_succ, List.getElem_cons_zero, List.setIfInBounds_toArray, List.set_cons_zero, List.set_cons_succ]
                refine wpAnyU_take (i := 8) [9, 10] rfl (by as_aux_lemma => kernel_rfl) (by as_aux_lemma => kernel_rfl) (by as_aux_lemma => kernel_rfl) (by as_aux_lemma => kernel_rfl) (by as_aux_lemma => kernel_rfl) (by as_aux_lemma => kernel_rfl) (fun _ _ _ h => h) (by first | exact Or.inl ⟨by rfl, (by intro W hSW; (try dsimp only at hSW); (try go_split_ands); go_simp <;> with_reducible rfl)⟩ | exact Or.inr ⟨by rfl, rfl⟩) hS0 ?_
                try simp only [Act.put, List.getElem_toArray, List.getElem_cons_succ, List.getElem_cons_zero, List.setIfInBounds_toArray, List.set_cons_zero, List.set_cons_succ]
                refine wpAnyU_take (i := 9) [10] rfl (by as_aux_lemma => kernel_rfl) (by as_aux_lemma => kernel_rfl) (by as_aux_lemma => kernel_rfl) (by as_aux_lemma => kernel_rfl) (by as_aux_lemma => kernel_rfl) (by as_aux_lemma => kernel_rfl) (fun _ _ _ h => h) (Or.inl ⟨by rfl, (by intro W hSW; (try dsimp only at hSW); (try go_split_ands); go_simp <;> with_reducible rfl)⟩) hS0 ?_
                try simp only [Act.put, List.getElem_toArray, List.getElem_cons_succ, List.getElem_cons_zero, List.setIfInBounds_toArray, List.set_cons_zero, List.set_cons_succ]
                refine wpAnyU_take (i := 10) [] rfl (by as_aux_lemma => kernel_rfl) (by as_aux_lemma => kernel_rfl) (by as_aux_lemma => kernel_rfl) (by as_aux_lemma => kernel_rfl) (by as_aux_lemma => kernel_rfl) (by as_aux_lemma => kernel_rfl) (fun _ _ _ h => h) (Or.inl ⟨by rfl, (by intro W hSW; (try dsimp only at hSW); (try go_split_ands); go_simp <;> with_reducible rfl)⟩) hS0 ?_
                try simp only [Act.put, List.getElem_toArray, List.getElem_cons_succ, List.getElem_cons_zero, List.setIfInBounds_toArray, List.set_cons_zero, List.set_cons_succ]
                refine wpAnyU_done (by kernel_rfl) ?_ _
                clear hS0
                go_wp2
                go_roundw
                case rel => exact ⟨qb, j + 1, by first | rfl | rw [hqb], by rw [HWK.out], HK.out.2.2, by rw [HK.out.2.1, hqb]; rfl, HK.out.1⟩
                case measure => exact meas_up HWK.out HK.out.2.2
            · have hjj : ¬ (j : Int) < (on : Int) := by omega
              have hjn : j = on := by omega
              have hbk : b = decide (xo ∈ ol.map (·.1)) := by
                rw [hbj, List.take_of_length_le (by rw [HX.out.2.2.2.2.1]; omega)]
              have hat1 := HX.out.1.below hbr
              have hbx1 := HX.out.2.1.below hbr
              have z1 := hbx1.c1
              have hpush := hat1.push hbx1 (xo, 0) (by have := HNB.out; have := HX.out.2.2.2.2.2; have := HX.out.2.2.2.1; have := HX.out.2.2.2.2.1; omega)
              rw [HX.out.2.2.2.2.1] at hpush
              have HPU := Lib.hid hpush
              have H1 := Lib.hid (And.intro hat1 (And.intro hbx1 hbk))
              clear hpush hat1 hbx1 hbk hjn hjlt hjo hbj hbr
              go_upto_if 60 with (fail)
              go_cut [4] (fun ov_ wx => ∃ (oa : Option Addr) (on oc : Nat) (ol : List (Int × Int)), ov_ = .slice oa on oc ∧ ol.length = on ∧ on ≤ i + 1 ∧ EnAt w1 wx T t A i ol (.slice oa on oc) ∧ BxE wx D xop xo xs xm t ∧ xo ∈ ol.map (·.1) ∧ EndI A (ol.map (·.1)))
              case first =>
                cases b with
                | true =>
                  go_wp2
                  go_meet
                  exact ⟨oa, on, oc, ol, rfl, HX.out.2.2.2.2.1, by have := HX.out.2.2.2.2.2; omega, H1.out.1, H1.out.2.1, by have h9 := H1.out.2.2; exact of_decide_eq_true h9.symm, HX.out.2.2.1⟩
                | false =>
                  obtain ⟨R, cp, w5, hrun, hat5, hbx5⟩ := HPU.out
                  have HRUN := Lib.hid hrun
                  have H5 := Lib.hid (And.intro hat5 hbx5)
                  clear hrun hat5 hbx5 HPU
                  go_wp2_with (at_builtin; refine wpList_append_eq rfl rfl HRUN.out rfl rfl ?_; clear HRUN)
                  go_meet
                  exact ⟨_, on + 1, cp, ol ++ [(xo, 0)], rfl, by simp [HX.out.2.2.2.2.1], by have := HX.out.2.2.2.2.2; omega, H5.out.1, H5.out.2, by simp, HX.out.2.2.1.mono (fun x hx => by rw [List.map_append]; exact List.mem_append_left _ hx)⟩
              case rest =>
                clear HPU H1 z1
                obtain ⟨oa, on, oc, ol, rfl, hon, hoi, hat, hbx, hxm, hen⟩ := hcut
                have z1 := hbx.c1
                have z2 := hbx.c2
                have z3 := hbx.c3
                have hask := hat.sd.ask (by have := HNB.out; have := HX.out.2.2.2.1; omega) xo xs xm HXS.out
                have hnew := hen.ask hxm xs xm
                obtain ⟨ea, hea⟩ : ∃ ea, (A.ask xo xs xm).2 = ea := ⟨_, rfl⟩
                obtain ⟨A1, hA1⟩ : ∃ A1, (A.ask xo xs xm).1 = A1 := ⟨_, rfl⟩
                rw [hea, hA1] at hask hnew
                have HASK := Lib.hid hask
                have HE := Lib.hid (And.intro hnew (And.intro hat (And.intro hbx (And.intro hon hoi))))
                clear hask hnew hea hA1 hat hbx hon hoi hen hxm
                go_wp2_with fail
                clear z1 z2 z3
                refine HASK.out.mono ?_
                rintro e w4 ⟨rfl, t', hst, hsd⟩
                have H4 := Lib.hid (And.intro (HE.out.2.1.stp hst hsd) (HE.out.2.2.1.stp hst))
                clear hst hsd HASK
                by_cases h10 : ea = 10
                · subst h10
                  have h11 : ((10 : Int) != 10) = false := by decide
                  go_wp2_with fail
                  go_loopw [9] (fun rv wr => ∃ (r : Nat) (t : TV) (A : AS) (F : List Int), rv = .int .i64 r ∧ F.length = r ∧ EnAt w1 wr T t A (i + 1) ol (.slice oa on oc) ∧ BxE wr D xop xo xs xm t ∧ EndV A (ol.map (·.1)) xo ∧ Gone A (ol.map (·.1)) F) (fun rv _ => on - (Go.RowKit.intOf rv).toNat)
                  case atStart => exact ⟨0, t', A1, [], rfl, rfl, H4.out.1, H4.out.2, HE.out.1.1, gone_nil⟩
                  case round =>
                    obtain ⟨r, t2, A2, F, rfl, hFr, hat2, hbx2, hev2, hgo2⟩ := hrel
                    have hro : r ≤ on := by have h9 := hgo2.len; rw [List.length_map, HE.out.2.2.2.1, hFr] at h9; exact h9
                    have z1 := hbx2.c1
                    have hrr : (r : Int) ≤ (on : Int) := by omega
                    have hvi := hat2.sd.victim (by have := HNB.out; have := HX.out.2.2.2.1; omega) xo
                    have HVI := Lib.hid hvi
                    have H2 := Lib.hid (And.intro hat2 (And.intro hbx2 (And.intro hev2 (And.intro hgo2 hFr))))
                    have HWR : Hid (wrap64 ((r : Int) + 1) = ((r + 1 : Nat) : Int)) := by show _ = _; have := HNB.out; have := HE.out.2.2.2.2; have := HX.out.2.2.2.1; unfold wrap64; omega
                    clear hvi hat2 hbx2 hev2 hgo2 hFr hro
                    go_wp2_with fail
                    clear z1
                    refine HVI.out.mono ?_
                    rintro e w5 ⟨vv, vb, rfl, hb5, hvic⟩
                    have H5 := Lib.hid (And.intro (H2.out.1.below hb5) (And.intro (H2.out.2.1.below hb5) hvic))
                    clear hb5 hvic HVI
                    cases vb with
                    | false =>
                      go_wp2
                      go_roundw
                      case rel => exact ⟨i + 1, oa, on, oc, t2, A2, ol, by rw [HWJ.out], rfl, HE.out.2.2.2.1, HE.out.2.2.2.2, HX.out.2.2.2.1, H5.out.1, H2.out.2.2.1.done (no_ring H5.out.2.2)⟩
                      case measure => exact meas_up HWJ.out HX.out.2.2.2.1
                    | true =>
                      have hvw := victim_waits H5.out.2.2
                      have hroom := H2.out.2.2.2.1.room H2.out.2.2.1.of hvw
                      rw [List.length_map, HE.out.2.2.2.1, H2.out.2.2.2.2] at hroom
                      have hre : ((r : Int) == (on : Int)) = false := by rw [beq_eq_false_iff_ne]; omega
                      have hfr := H5.out.1.sd.free (by have := HNB.out; have := HX.out.2.2.2.1; omega) vv
                      have HFR := Lib.hid hfr
                      have HVW := Lib.hid (And.intro hvw hroom)
                      clear hvw hroom hfr
                      go_wp2_with fail
                      refine HFR.out.mono ?_
                      rintro e w6 ⟨v6, ns6, t6, rfl, -, -, -, hst6, hsd6, -, -, -⟩
                      have H6 := Lib.hid (And.intro (H5.out.1.stp hst6 hsd6) (H5.out.2.1.stp hst6))
                      clear hst6 hsd6 HFR
                      go_wp2
                      go_roundw
                      case rel => exact ⟨r + 1, t6, _, vv :: F, by rw [HWR.out], by simp [H2.out.2.2.2.2], H6.out.1, H6.out.2, H2.out.2.2.1.freed vv, H2.out.2.2.2.1.freed H2.out.2.2.1.of HVW.out.1⟩
                      case measure => exact meas_up HWR.out HVW.out.2
                · have h11 : (ea != 10) = true := by simp [h10]
                  go_wp2
                  go_roundw
                  case rel => exact ⟨i + 1, oa, on, oc, t', A1, ol, by rw [HWJ.out], rfl, HE.out.2.2.2.1, HE.out.2.2.2.2, HX.out.2.2.2.1, H4.out.1, HE.out.1.2 h10⟩
                  case measure => exact meas_up HWJ.out HX.out.2.2.2.1
    · have hii : ¬ (i : Int) < (n : Int) := by omega
      have hi2 : i = n := by omega
      subst hi2
      have HS := Lib.hid (And.intro hat (And.intro hen (And.intro hon (And.intro hoi hb))))
      clear hb hin hat hlt hen hon hoi
      obtain ⟨ws, rfl⟩ : ∃ ws : World, ws = wr := ⟨_, rfl⟩
      have hib : on ≤ 3518437208882 ∧ i ≤ 3518437208882 := by have := HNB.out; have := HS.out.2.2.2.1; omega
      have HIB := Lib.hid hib
      have HBW : Hid (Below w.heap.size w w1) := HB1.out
      clear hib HT HB1
      go_wp2_with fail
      go_loopw [12] (fun jv wr => ∃ j : Nat, jv = .int .i64 j ∧ j ≤ on ∧ Below ws.heap.size ws wr) (fun jv _ => on - (Go.RowKit.intOf jv).toNat)
      case atStart => exact ⟨0, rfl, Nat.zero_le _, Below.refl _ _⟩
      case round =>
        obtain ⟨j, rfl, hjo, hbr⟩ := hrel
        by_cases hjlt : j < on
        · have hjl : j < ol.length := by rw [HS.out.2.2.1]; exact hjlt
          obtain ⟨og, oo, rfl, hco⟩ := ol_at HS.out.1.row.row HS.out.2.2.1 j hjl
          have c1 := hco _ hbr
          obtain ⟨oj, hoj⟩ : ∃ oj, ol[j].1 = oj := ⟨_, rfl⟩
          rw [hoj] at c1
          have hjj : (j : Int) < (on : Int) := by omega
          have hj0 : (0 : Int) ≤ (j : Int) := by omega
          have HWK : Hid (wrap64 ((j : Int) + 1) = ((j + 1 : Nat) : Int)) := by show _ = _; have := HIB.out.1; unfold wrap64; omega
          have hvi := (HS.out.1.below hbr).sd.victim (by have := HIB.out.2; omega) oj
          have HVI := Lib.hid hvi
          have HK := Lib.hid (And.intro hbr hjlt)
          clear hvi hbr hjlt hjo hco hoj hjl
          go_wp2_with fail
          clear c1
          refine HVI.out.mono ?_
          rintro e w5 ⟨vv, vb, rfl, hb5, hvic⟩
          have hvb : vb = false := by
            cases vb with
            | false => rfl
            | true =>
              rcases hvic with ⟨h9, -⟩ | ⟨-, h9, -⟩
              · cases h9
              · exact absurd (reach_tc.1 h9) (HS.out.2.1.ac oj)
          subst hvb
          have H5 : Hid (Below ws.heap.size ws w5) := HK.out.1.trans (hb5.mono HK.out.1.size)
          clear hb5 hvic HVI
          go_wp2
          go_roundw
          case rel => exact ⟨j + 1, by rw [HWK.out], HK.out.2, H5.out⟩
          case measure => exact meas_up HWK.out HK.out.2
        · have hjj : ¬ (j : Int) < (on : Int) := by omega
          have HT0 := Lib.hid (HS.out.1.below hbr)
          clear hbr hjo hjlt
          obtain ⟨wt, rfl⟩ : ∃ wt : World, wt = wr := ⟨_, rfl⟩
          go_wp2_with fail
          go_loopw [15] (fun rv wr => ∃ (r : Nat) (t : TV) (A : AS), rv = .int .i64 r ∧ r ≤ on + 1 ∧ EnAt w1 wr T t A i ol (.slice oa on oc) ∧ ((r ≤ on ∧ OutI A (ol.map (·.1)) r) ∨ (r = on + 1 ∧ ∀ x ∈ ol.map (·.1), ¬ A.waits x ∧ ∀ s, A.H s x = none))) (fun rv _ => on + 1 - (Go.RowKit.intOf rv).toNat)
          case atStart => exact ⟨0, t, A, rfl, Nat.zero_le _, HT0.out, .inl ⟨Nat.zero_le _, OutI.start HS.out.2.1⟩⟩
          case round =>
            obtain ⟨r, t2, A2, rfl, hro, hat2, hor⟩ := hrel
            by_cases hrlt : r ≤ on
            · have hout : OutI A2 (ol.map (·.1)) r := by
                rcases hor with h9 | h9
                · exact h9.2
                · omega
              have hrr : (r : Int) ≤ (on : Int) := by omega
              have HWR : Hid (wrap64 ((r : Int) + 1) = ((r + 1 : Nat) : Int)) := by show _ = _; have := HIB.out.1; unfold wrap64; omega
              have H2 := Lib.hid (And.intro hat2 (And.intro hout hrlt))
              clear hat2 hor hout hrlt hro
              obtain ⟨wu, rfl⟩ : ∃ wu : World, wu = wr := ⟨_, rfl⟩
              go_wp2_with fail
              go_loopw [16] (fun jv wr => ∃ (j : Nat) (t : TV) (A : AS), jv = .int .i64 j ∧ j ≤ on ∧ EnAt w1 wr T t A i ol (.slice oa on oc) ∧ RndI A2 A (ol.map (·.1)) j) (fun jv _ => on - (Go.RowKit.intOf jv).toNat)
              case atStart => exact ⟨0, t2, A2, rfl, Nat.zero_le _, H2.out.1, RndI.start H2.out.2.1.1⟩
              case round =>
                obtain ⟨k, t3, A3, rfl, hko, hat3, hrn⟩ := hrel
                by_cases hklt : k < on
                · have hkl : k < ol.length := by rw [HS.out.2.2.1]; exact hklt
                  obtain ⟨og, oo, rfl, hco⟩ := ol_at hat3.row.row HS.out.2.2.1 k hkl
                  have c1 := hco _ (Below.refl _ _)
                  have hkey := key_at hkl
                  obtain ⟨ok, hok⟩ : ∃ ok, ol[k].1 = ok := ⟨_, rfl⟩
                  rw [hok] at c1 hkey hco
                  have hkk : (k : Int) < (on : Int) := by omega
                  have hk0 : (0 : Int) ≤ (k : Int) := by omega
                  have HWK : Hid (wrap64 ((k : Int) + 1) = ((k + 1 : Nat) : Int)) := by show _ = _; have := HIB.out.1; unfold wrap64; omega
                  have hwa := hat3.sd.waits ok
                  have HWA := Lib.hid hwa
                  have H3 := Lib.hid (And.intro hat3 (And.intro hrn (And.intro hkey (And.intro hklt hco))))
                  clear hwa hat3 hrn hkey hklt hko hco hok hkl
                  go_wp2_with fail
                  clear c1
                  refine HWA.out.mono ?_
                  rintro e w5 ⟨gs, gm, gw, rfl, hb5, hgw⟩
                  obtain ⟨wq, hwq⟩ : ∃ wq, w5.alloc (.cells #[.string gs, .int .i64 gm] 33) = wq := ⟨_, rfl⟩
                  have hbq : Below wr.heap.size wr wq := by rw [← hwq]; exact hb5.alloc hb5.size _
                  have c1 := H3.out.2.2.2.2 _ hbq
                  have hatq := H3.out.1.below hbq
                  have hfr := hatq.sd.free (by have := HIB.out.2; omega) ok
                  have HFR := Lib.hid hfr
                  have HQ := Lib.hid (And.intro hatq hgw)
                  clear hbq hatq hfr hb5 hgw HWA
                  cases gw with
                  | true =>
                    have hw : A3.waits ok := by
                      rcases HQ.out.2 with ⟨-, h9⟩ | ⟨h9, -⟩
                      · exact ⟨gs, gm, h9⟩
                      · cases h9
                    have HN3 := Lib.hid (H3.out.2.1.skip H3.out.2.2.1 hw)
                    clear hw HFR c1
                    go_wp2
                    go_roundw
                    case rel => exact ⟨k + 1, t3, A3, by rw [HWK.out], H3.out.2.2.2.1, by first | exact HQ.out.1 | (rw [hwq]; exact HQ.out.1), HN3.out⟩
                    case measure => exact meas_up HWK.out H3.out.2.2.2.1
                  | false =>
                    go_wp2_with fail
                    clear c1
                    try rw [hwq]
                    clear hwq
                    refine HFR.out.mono ?_
                    rintro e w6 ⟨v6, ns6, t6, rfl, -, -, -, hst6, hsd6, -, -, -⟩
                    have H6 := Lib.hid (HQ.out.1.stp hst6 hsd6)
                    clear hst6 hsd6 HFR
                    go_wp2
                    go_roundw
                    case rel => exact ⟨k + 1, t6, _, by rw [HWK.out], H3.out.2.2.2.1, H6.out, H3.out.2.1.free H3.out.2.2.1⟩
                    case measure => exact meas_up HWK.out H3.out.2.2.2.1
                · have hkk : ¬ (k : Int) < (on : Int) := by omega
                  have hrn' : RndI A2 A3 (ol.map (·.1)) (ol.map (·.1)).length := by
                    have h9 : k = (ol.map (·.1)).length := by rw [List.length_map, HS.out.2.2.1]; omega
                    rw [← h9]; exact hrn
                  have hfin : (r + 1 ≤ on ∧ OutI A3 (ol.map (·.1)) (r + 1)) ∨ (r + 1 = on + 1 ∧ ∀ x ∈ ol.map (·.1), ¬ A3.waits x ∧ ∀ s, A3.H s x = none) := by
                    by_cases hre : r + 1 ≤ on
                    · exact .inl ⟨hre, H2.out.2.1.step hrn'⟩
                    · have hrl : r = (ol.map (·.1)).length := by rw [List.length_map, HS.out.2.2.1]; have := H2.out.2.2; omega
                      have ho := H2.out.2.1
                      rw [hrl] at ho
                      exact .inr ⟨by have := H2.out.2.2; omega, fun x hx => ends_all ho hrn' x hx⟩
                  have H3 := Lib.hid (And.intro hat3 hfin)
                  clear hat3 hrn hrn' hfin hko hklt
                  go_wp2
                  go_roundw
                  case rel => exact ⟨r + 1, t3, A3, by rw [HWR.out], by have := H2.out.2.2; omega, H3.out.1, H3.out.2⟩
                  case measure => exact meas_up HWR.out (Nat.lt_succ_of_le H2.out.2.2)
            · have hrr : ¬ (r : Int) ≤ (on : Int) := by omega
              have hend : ∀ x ∈ ol.map (·.1), ¬ A2.waits x ∧ ∀ s, A2.H s x = none := by
                rcases hor with h9 | h9
                · omega
                · exact h9.2
              have H2 := Lib.hid (And.intro hat2 hend)
              clear hat2 hor hend hro hrlt
              obtain ⟨wu, rfl⟩ : ∃ wu : World, wu = wr := ⟨_, rfl⟩
              go_wp2_with fail
              go_loopw [19] (fun jv wr => ∃ j : Nat, jv = .int .i64 j ∧ j ≤ on ∧ Below wu.heap.size wu wr) (fun jv _ => on - (Go.RowKit.intOf jv).toNat)
              case atStart => exact ⟨0, rfl, Nat.zero_le _, Below.refl _ _⟩
              case round =>
                obtain ⟨k, rfl, hko, hbr⟩ := hrel
                by_cases hklt : k < on
                · have hkl : k < ol.length := by rw [HS.out.2.2.1]; exact hklt
                  obtain ⟨og, oo, rfl, hco⟩ := ol_at H2.out.1.row.row HS.out.2.2.1 k hkl
                  have c1 := hco _ hbr
                  have hkey : ol[k].1 ∈ ol.map (·.1) := List.mem_map_of_mem (List.getElem_mem hkl)
                  obtain ⟨ok, hok⟩ : ∃ ok, ol[k].1 = ok := ⟨_, rfl⟩
                  rw [hok] at c1 hkey hco
                  have hkk : (k : Int) < (on : Int) := by omega
                  have hk0 : (0 : Int) ≤ (k : Int) := by omega
                  have HWK : Hid (wrap64 ((k : Int) + 1) = ((k + 1 : Nat) : Int)) := by show _ = _; have := HIB.out.1; unfold wrap64; omega
                  have hat3 := H2.out.1.below hbr
                  have hwa := hat3.sd.waits ok
                  have HWA := Lib.hid hwa
                  have H3 := Lib.hid (And.intro hat3 (And.intro hbr (And.intro hkey (And.intro hklt hco))))
                  clear hwa hat3 hkey hklt hko hco hok hkl hbr
                  go_wp2_with fail
                  clear c1
                  refine HWA.out.mono ?_
                  rintro e w5 ⟨gs, gm, gw, rfl, hb5, hgw⟩
                  have hgf : gw = false := by
                    rcases hgw with ⟨-, h9⟩ | ⟨h9, -⟩
                    · exact absurd ⟨gs, gm, h9⟩ (H2.out.2 ok H3.out.2.2.1).1
                    · exact h9
                  subst hgf
                  obtain ⟨wq, hwq⟩ : ∃ wq, w5.alloc (.cells #[.string gs, .int .i64 gm] 33) = wq := ⟨_, rfl⟩
                  have hbq : Below wr.heap.size wr wq := by rw [← hwq]; exact hb5.alloc hb5.size _
                  have hbq' := H3.out.2.1.trans (hbq.mono H3.out.2.1.size)
                  have c1 := H3.out.2.2.2.2 _ hbq'
                  have hhe := (H3.out.1.below hbq).sd.held (by have := HIB.out.2; omega) ok
                  have HHE := Lib.hid hhe
                  have HQ := Lib.hid hbq'
                  clear hbq hbq' hhe hb5 hgw HWA
                  go_wp2_with fail
                  clear c1
                  try rw [hwq]
                  clear hwq
                  refine HHE.out.mono ?_
                  intro e w6 hpost
                  obtain ⟨ha, hc, rfl, hb6⟩ := held_no hpost (H2.out.2 ok H3.out.2.2.1).2
                  have H6 : Hid (Below wu.heap.size wu w6) := HQ.out.trans (hb6.mono HQ.out.size)
                  clear hpost hb6 HHE
                  go_wp2
                  go_roundw
                  case rel => exact ⟨k + 1, by rw [HWK.out], H3.out.2.2.2.1, H6.out⟩
                  case measure => exact meas_up HWK.out H3.out.2.2.2.1
                · have hkk : ¬ (k : Int) < (on : Int) := by omega
                  have HB : Hid (Below w.heap.size w wr) := by
                    have h9 := (H2.out.1.below hbr).sd.bl
                    exact HBW.out.trans (h9.mono HBW.out.size)
                  clear hbr hko hklt
                  go_wp2
                  go_ret
                  exact ⟨rfl, HB.out⟩
end Mun
