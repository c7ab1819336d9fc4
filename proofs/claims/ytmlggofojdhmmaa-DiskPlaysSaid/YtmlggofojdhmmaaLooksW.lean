/- The contract of the law's looks: a device and the reference's, of one and the same model, look alike. -/
import Derived.Test.YtmlggofojdhmmaaRefC
import Derived.Test.YtmlggofojdhmmaaRefE
import Derived.Test.YtmlggofojdhmmaaRegU
import Derived.BigQuiet
set_option maxRecDepth 1000000
set_option linter.unusedVariables false
set_option linter.unusedSimpArgs false
namespace Mun
open Go Go.RowKit
open Go.Proofs

/-- the load of a struct, in whatever world of S -/
theorem yieldsIf_load_row {P : Program} {ops : Array Oper} {S : World → Prop} {o : Oper} {a : Act} (hw : Region.wanted o (yielded ops a.tmps) = true) (ty : TypeId) (x : Operand) (ho : o.op = .load ty x)
    (g : Nat) (hx : a.eval x = .pointer (some ⟨g, 0, none⟩)) (t : TypeId) (cs : Array Value) (fr : Nat × Nat) (d : TypeDesc) (hg : ∀ w, S w → w.heap[g]? = some (.cells cs t fr))
    (hu : P.underlying ty = some d) (hd : (match d with | .struct _ | .array _ _ => true | _ => false) = true) (hi : (P.info? ty).map (·.size) = some cs.size) : YieldsIf P ops S o (.agg cs) a := by
  refine .inl ⟨hw, fun w hS => ?_⟩
  unfold execOp
  simp only [ho, hx, Instr.loadAt, Instr.sureAddr, Sem.run_bind, Sem.run_pure, Result.andThen_ok, run_loadVar_row w g t ty cs fr d (hg w hS) hu hd hi]

theorem r6zero9 (w : World) : Calls Try.prog 45 #[.slice none 0 0, .int .i64 9, .int .i64 9] w fun e w' => e = .returned (.bool true) ∧ w = w' := by
  go_enter Try.func45, Try.ntmps45
  go_wp2
  go_ret
  exact ⟨rfl, rfl⟩

set_option maxHeartbeats 2000000 in
theorem looks_any {E F G : Foot} (w : World) (D : Nat) (m : DM) (r : RV) (hA : DiskAt w D E F m) (hr : RRep G w m r) :
    Calls Try.prog 34 #[.pointer (some ⟨D, 0, none⟩), .agg (rcells m r)] w fun e w' => e = .returned (.bool true) ∧ Below w.heap.size w w' := by
  obtain ⟨a0, c0, a1, c1, a2, c2, a3, c3, a4, n4, c4, a5, c5, e0, e1, e2, e3, e4, e5⟩ := hr.forms
  have hnp := hr.wf.npages
  have hln := hr.wf.room
  have hl24 := hr.wf.room24
  have hmk := hr.wf.mark
  have HR := Lib.hid hr
  obtain ⟨bv, wv, lv, mv, lb, tv, lp, bs, ws⟩ := r
  simp only at e0 e1 e2 e3 e4 e5
  subst e0 e1 e2 e3 e4 e5
  obtain ⟨nb, hnb⟩ : ∃ nb, m.base.length = nb := ⟨_, rfl⟩
  obtain ⟨la, hla⟩ : ∃ la, m.log.length = la := ⟨_, rfl⟩
  obtain ⟨lm, hlm⟩ : ∃ lm, m.mark.length = lm := ⟨_, rfl⟩
  obtain ⟨w1, hw1⟩ : ∃ w1, w.alloc (.cells (rcells m ⟨.slice a0 m.base.length c0, .slice a1 ws.length c1, .slice a2 m.log.length c2, .slice a3 m.mark.length c3, .slice a4 n4 c4, .slice a5 m.tail.length c5, lp, bs, ws⟩) 52) = w1 := ⟨_, rfl⟩
  have hb1 : Below w.heap.size w w1 := by rw [← hw1]; exact below_more (Below.refl _ _) _
  have hx1 : BoxAt w1 w.heap.size (rcells m ⟨.slice a0 m.base.length c0, .slice a1 ws.length c1, .slice a2 m.log.length c2, .slice a3 m.mark.length c3, .slice a4 n4 c4, .slice a5 m.tail.length c5, lp, bs, ws⟩) := by rw [← hw1]; exact BoxAt.new w _
  unfold rcells at hw1 hx1 ⊢
  simp only [hnb, hla, hlm] at hw1 hx1 ⊢
  have hA1 := hA.below hb1
  have HNB := Lib.hid (And.intro hnb (And.intro hla hlm))
  have hq1 := fun k => d_pages (w1.drewN k) D F m (hA1.drewN k)
  have hq2 := fun k => d_room (w1.drewN k) D F m (hA1.drewN k)
  have hq3 := fun k => d_ops (w1.drewN k) D F m (hA1.drewN k)
  have hq4 := fun k => d_dead (w1.drewN k) D F m (hA1.drewN k)
  have hq5 := fun k => d_certain (w1.drewN k) D F m (hA1.drewN k)
  rw [hnb] at hq1
  cases hd : m.dead with
  | true =>
    rw [hd] at hw1 hx1 hq4
    have x0 : w1.cell? ⟨w.heap.size, 0, none⟩ = some (.slice a0 nb c0) := hx1.cell 0 rfl
    have x2 : w1.cell? ⟨w.heap.size, 2, none⟩ = some (.int .i64 m.room) := hx1.cell 2 rfl
    have x4 : w1.cell? ⟨w.heap.size, 4, none⟩ = some (.int .i64 m.certain) := hx1.cell 4 rfl
    have x7 : w1.cell? ⟨w.heap.size, 7, none⟩ = some (.int .i64 m.ops) := hx1.cell 7 rfl
    have x8 : w1.cell? ⟨w.heap.size, 8, none⟩ = some (.bool true) := hx1.cell 8 rfl
    have HX1 := Lib.hid (And.intro hb1 (And.intro hx1 (And.intro hA1 hd)))
    have HQ1 := Lib.hid hq1
    have HQ2 := Lib.hid hq2
    have HQ3 := Lib.hid hq3
    have HQ4 := Lib.hid hq4
    have HQ5 := Lib.hid hq5
    obtain ⟨rm, hrm⟩ : ∃ rm, m.room = rm := ⟨_, rfl⟩
    clear hr hA hA1 hx1 hb1 hq1 hq2 hq3 hq4 hq5 hnb hla hlm hnp hln hl24 hmk hd hrm
    go_enter Try.func34, Try.ntmps34
    go_upto_region 1 with (fail)
    go_quiet ((first
      | (go_at_call 29; exact quiet_eq (HQ1.out _))
      | (go_at_call 30; exact quiet_eq (HQ2.out _))
      | (go_at_call 26; exact quiet_eq (HQ3.out _))
      | (go_at_call 20; exact quiet_eq (HQ4.out _))
      | (go_at_call 24; exact quiet_eq (HQ5.out _))))
    have HX2 : Hid (Below w.heap.size w (w1.drewN nq) ∧ BoxAt (w1.drewN nq) w.heap.size #[.slice a0 nb c0, .slice a1 ws.length c1, .int .i64 m.room, .slice a2 la c2, .int .i64 m.certain, .slice a3 lm c3, .int .i64 m.fuse, .int .i64 m.ops, .bool true, .int .i64 lp, .slice a4 n4 c4, .slice a5 m.tail.length c5, .bool m.torn.isSome] ∧ DiskAt (w1.drewN nq) D E F m ∧ m.dead = true) := ⟨below_drewN HX1.out.1 nq, HX1.out.2.1, HX1.out.2.2.1.drewN nq, HX1.out.2.2.2⟩
    obtain ⟨w2, hw2⟩ : ∃ w2, w1.drewN nq = w2 := ⟨_, rfl⟩
    rw [hw2] at HX2 ⊢
    have y8 : w2.cell? ⟨w.heap.size, 8, none⟩ = some (.bool true) := HX2.out.2.1.cell 8 rfl
    clear x0 x2 x4 x7 x8 hw1 HX1 HQ1 HQ2 HQ3 HQ4 HQ5 hw2

    go_wp2_with fail
    refine (d_log_no w2 D F m HX2.out.2.2.1 HX2.out.2.2.2).mono ?_
    rintro e W ⟨rfl, rfl⟩
    go_wp2_with fail
    refine (d_marked_no w2 D F m HX2.out.2.2.1 HX2.out.2.2.2).mono ?_
    rintro e W ⟨rfl, rfl⟩
    go_wp2_with fail
    refine (d_read_dead w2 D F m HX2.out.2.2.1 HX2.out.2.2.2 0).mono ?_
    rintro e W ⟨rfl, rfl⟩
    have hz := r6zero9 w2
    go_wp2_with (go_at_call 45; refine hz.mono ?_; rintro e W ⟨rfl, rfl⟩)
    go_ret
    exact ⟨rfl, HX2.out.1⟩
  | false =>
    rw [hd] at hw1 hx1 hq4
    have x0 : w1.cell? ⟨w.heap.size, 0, none⟩ = some (.slice a0 nb c0) := hx1.cell 0 rfl
    have x2 : w1.cell? ⟨w.heap.size, 2, none⟩ = some (.int .i64 m.room) := hx1.cell 2 rfl
    have x4 : w1.cell? ⟨w.heap.size, 4, none⟩ = some (.int .i64 m.certain) := hx1.cell 4 rfl
    have x7 : w1.cell? ⟨w.heap.size, 7, none⟩ = some (.int .i64 m.ops) := hx1.cell 7 rfl
    have x8 : w1.cell? ⟨w.heap.size, 8, none⟩ = some (.bool false) := hx1.cell 8 rfl
    have HX1 := Lib.hid (And.intro hb1 (And.intro hx1 (And.intro hA1 hd)))
    have HQ1 := Lib.hid hq1
    have HQ2 := Lib.hid hq2
    have HQ3 := Lib.hid hq3
    have HQ4 := Lib.hid hq4
    have HQ5 := Lib.hid hq5
    obtain ⟨rm, hrm⟩ : ∃ rm, m.room = rm := ⟨_, rfl⟩
    clear hr hA hA1 hx1 hb1 hq1 hq2 hq3 hq4 hq5 hnb hla hlm hnp hln hl24 hmk hd hrm
    go_enter Try.func34, Try.ntmps34
    go_upto_region 1 with (fail)
    go_quiet ((first
      | (go_at_call 29; exact quiet_eq (HQ1.out _))
      | (go_at_call 30; exact quiet_eq (HQ2.out _))
      | (go_at_call 26; exact quiet_eq (HQ3.out _))
      | (go_at_call 20; exact quiet_eq (HQ4.out _))
      | (go_at_call 24; exact quiet_eq (HQ5.out _))))
    have HX2 : Hid (Below w.heap.size w (w1.drewN nq) ∧ BoxAt (w1.drewN nq) w.heap.size #[.slice a0 nb c0, .slice a1 ws.length c1, .int .i64 m.room, .slice a2 la c2, .int .i64 m.certain, .slice a3 lm c3, .int .i64 m.fuse, .int .i64 m.ops, .bool false, .int .i64 lp, .slice a4 n4 c4, .slice a5 m.tail.length c5, .bool m.torn.isSome] ∧ DiskAt (w1.drewN nq) D E F m ∧ m.dead = false) := ⟨below_drewN HX1.out.1 nq, HX1.out.2.1, HX1.out.2.2.1.drewN nq, HX1.out.2.2.2⟩
    obtain ⟨w2, hw2⟩ : ∃ w2, w1.drewN nq = w2 := ⟨_, rfl⟩
    rw [hw2] at HX2 ⊢
    have y8 : w2.cell? ⟨w.heap.size, 8, none⟩ = some (.bool false) := HX2.out.2.1.cell 8 rfl
    clear x0 x2 x4 x7 x8 hw1 HX1 HQ1 HQ2 HQ3 HQ4 HQ5 hw2

    have hL := d_log w2 D F m HX2.out.2.2.1 HX2.out.2.2.2
    have hb3 : Below w2.heap.size w2 (w2.alloc (bobj m.log)) := (Below.refl _ _).alloc (Nat.le_refl _) _
    have hM := d_marked (w2.alloc (bobj m.log)) D F m (HX2.out.2.2.1.below hb3) HX2.out.2.2.2
    have hb4 : Below w2.heap.size w2 ((w2.alloc (bobj m.log)).alloc (bobj m.mark)) := hb3.alloc hb3.size _
    rw [HNB.out.2.1] at hL
    rw [HNB.out.2.2] at hM
    obtain ⟨w3, hw3⟩ : ∃ w3, w2.alloc (bobj m.log) = w3 := ⟨_, rfl⟩
    rw [hw3] at hL hM hb4
    obtain ⟨w4, hw4⟩ : ∃ w4, w3.alloc (bobj m.mark) = w4 := ⟨_, rfl⟩
    rw [hw4] at hM hb4
    have hbw : Below w.heap.size w w4 := HX2.out.1.trans (hb4.mono HX2.out.1.size)
    have hR4 := HR.out.below hbw
    have hp1 : RdB NoF w4 (.slice (some ⟨w2.heap.size, 0, none⟩) la la) m.log := by
      rw [← hw4, ← hw3]
      have h9 := (bobj_rd (F := NoF) w2 m.log m.log.length rfl (maxLen_ge (by have := HR.out.wf.room; have := HR.out.wf.room24; omega)) (noF _)).alloc (bobj m.mark)
      rw [HNB.out.2.1] at h9
      exact h9
    have hp2 : RdB NoF w4 (.slice (some ⟨w3.heap.size, 0, none⟩) lm lm) m.mark := by
      rw [← hw4]
      have h9 := bobj_rd (F := NoF) w3 m.mark m.mark.length rfl (maxLen_ge (by have := HR.out.wf.mark; omega)) (noF _)
      rw [HNB.out.2.2] at h9
      exact h9
    have s1 := str_bytes hp1
    have s2 := str_bytes hp2
    have s3 := str_bytes hR4.log
    have s4 := str_bytes hR4.mark
    simp only [HNB.out.2.1, HNB.out.2.2] at s3 s4
    have hbx4 := HX2.out.2.1.below hb4 HX2.out.2.1.lt
    have z8 : w4.cell? ⟨w.heap.size, 8, none⟩ = some (.bool false) := hbx4.cell 8 rfl
    have z3 : w4.cell? ⟨w.heap.size, 3, none⟩ = some (.slice a2 la c2) := hbx4.cell 3 rfl
    have z5 : w4.cell? ⟨w.heap.size, 5, none⟩ = some (.slice a3 lm c3) := hbx4.cell 5 rfl
    have HX4 : Hid (Below w.heap.size w w4 ∧ BoxAt w4 w.heap.size #[.slice a0 nb c0, .slice a1 ws.length c1, .int .i64 m.room, .slice a2 la c2, .int .i64 m.certain, .slice a3 lm c3, .int .i64 m.fuse, .int .i64 m.ops, .bool false, .int .i64 lp, .slice a4 n4 c4, .slice a5 m.tail.length c5, .bool m.torn.isSome] ∧ DiskAt w4 D E F m ∧ m.dead = false) := ⟨hbw, hbx4, HX2.out.2.2.1.below hb4, HX2.out.2.2.2⟩
    have HL := Lib.hid hL
    have HM := Lib.hid hM
    clear hL hM hb3 hb4 hbw hR4 hp1 hp2 hw3 hw4 hbx4 HX2 y8
    go_wp2_with fail
    refine HL.out.mono ?_
    rintro e W ⟨rfl, rfl⟩
    go_wp2_with fail
    refine HM.out.mono ?_
    rintro e W ⟨rfl, rfl⟩
    clear HL HM
    go_wp2
    clear s1 s2 s3 s4 z3 z5 z8
    go_loopw [11] (fun i wr => ∃ (q : Nat), q ≤ nb ∧ i = .int .i64 (q : Int) ∧ Below w4.heap.size w4 wr) (fun i _ => nb - (intOf i).toNat)
    case atStart => exact ⟨0, by omega, rfl, Below.refl _ _⟩
    case round =>
      obtain ⟨q, hq, rfl, hb7⟩ := hrel
      have hnb65 : nb ≤ 65536 := by rw [← HNB.out.1]; exact HR.out.wf.npages
      have hqi : (q : Int) ≤ 65536 := by omega
      have hq0 : (0 : Int) ≤ (q : Int) := by omega
      have hbxr := HX4.out.2.1.below hb7 HX4.out.2.1.lt
      have z0 : wr.cell? ⟨w.heap.size, 0, none⟩ = some (.slice a0 nb c0) := hbxr.cell 0 rfl
      have HB7 := Lib.hid (And.intro hb7 (And.intro hbxr (HX4.out.1.trans (hb7.mono HX4.out.1.size))))
      clear hnb65 hb7 hbxr
      rcases Nat.lt_or_eq_of_le hq with hlt | heq
      · have t1 : (q : Int) < (nb : Int) := by omega
        by_cases h64 : q < 64
        · have t2 : (q : Int) < 64 := by omega
          have hr1 := d_read wr D F m (HX4.out.2.2.1.below HB7.out.1) HX4.out.2.2.2 q (by rw [HNB.out.1]; exact hlt)
          obtain ⟨P, hP⟩ : ∃ P, m.page q = P := ⟨_, rfl⟩
          have hPl : P.length = 512 := by rw [← hP]; exact DM.page_length HR.out.wf q (by rw [HNB.out.1]; exact hlt)
          have hpg : ∀ W, Below w.heap.size w W → Calls Try.prog 44 #[.agg #[.slice a0 nb c0, .slice a1 ws.length c1, .int .i64 m.room, .slice a2 la c2, .int .i64 m.certain, .slice a3 lm c3, .int .i64 m.fuse, .int .i64 m.ops, .bool false, .int .i64 lp, .slice a4 n4 c4, .slice a5 m.tail.length c5, .bool m.torn.isSome], .int .i64 q] W (CopOut W P) := fun W hW => by
            have h9 := r6page W m _ (HR.out.below hW) q (by rw [HNB.out.1]; exact hlt)
            unfold rcells at h9
            simp only [HNB.out.1, HNB.out.2.1, HNB.out.2.2, HX4.out.2.2.2, hP] at h9
            exact h9
          rw [hP] at hr1
          have hb5 : Below w.heap.size w (wr.alloc (bobj P)) := below_more HB7.out.2.2 _
          have hb45 : Below w4.heap.size w4 (wr.alloc (bobj P)) := below_more HB7.out.1 _
          have hbx5 : BoxAt (wr.alloc (bobj P)) w.heap.size #[.slice a0 nb c0, .slice a1 ws.length c1, .int .i64 m.room, .slice a2 la c2, .int .i64 m.certain, .slice a3 lm c3, .int .i64 m.fuse, .int .i64 m.ops, .bool false, .int .i64 lp, .slice a4 n4 c4, .slice a5 m.tail.length c5, .bool m.torn.isSome] := (heap_alloc_old _ _ HB7.out.2.1.lt).trans HB7.out.2.1
          have hrd : RdB NoF (wr.alloc (bobj P)) (.slice (some ⟨wr.heap.size, 0, none⟩) 512 512) P := by
            have h9 := bobj_rd (F := NoF) wr P P.length rfl (maxLen_ge (by omega)) (noF _)
            rw [hPl] at h9
            exact h9
          obtain ⟨w5, hw5⟩ : ∃ w5, wr.alloc (bobj P) = w5 := ⟨_, rfl⟩
          rw [hw5] at hr1 hb5 hb45 hbx5 hrd
          have hpg5 := hpg w5.drew (below_drewN hb5 1)
          have HPG := Lib.hid hpg5
          have HRD := Lib.hid hrd
          have HBX := Lib.hid hbx5
          have HB5 := Lib.hid hb45
          have HR1 := Lib.hid hr1
          have HLT := Lib.hid hlt
          have hS0 : (convert 28 9 (.slice (some ⟨wr.heap.size, 0, none⟩) 512 512)).run Try.prog w5.drew = .ok (.string (strOf P)) w5.drew ∧ BoxAt w5.drew w.heap.size #[.slice a0 nb c0, .slice a1 ws.length c1, .int .i64 m.room, .slice a2 la c2, .int .i64 m.certain, .slice a3 lm c3, .int .i64 m.fuse, .int .i64 m.ops, .bool false, .int .i64 lp, .slice a4 n4 c4, .slice a5 m.tail.length c5, .bool m.torn.isSome] := ⟨str_bytes (RdB.drewN hrd 1), hbx5⟩
          clear hpg hpg5 hrd hbx5 hb5 hb45 hr1 hP hPl hw5 hlt hq h64
          go_wp2_with fail
          refine HR1.out.mono ?_
          rintro e W ⟨rfl, rfl⟩
          clear HR1 z0
          go_upto_region 14 with (fail)
          refine wp_region_U (fun W => (convert 28 9 (.slice (some ⟨wr.heap.size, 0, none⟩) 512 512)).run Try.prog W = .ok (.string (strOf P)) W ∧ BoxAt W w.heap.size #[.slice a0 nb c0, .slice a1 ws.length c1, .int .i64 m.room, .slice a2 la c2, .int .i64 m.certain, .slice a3 lm c3, .int .i64 m.fuse, .int .i64 m.ops, .bool false, .int .i64 lp, .slice a4 n4 c4, .slice a5 m.tail.length c5, .bool m.torn.isSome]) [] (by kernel_rfl) ?_
          refine wpAnyU_take (i := 0) [1, 2, 3, 4, 5, 6, 7, 8, 9, 10] rfl (by kernel_rfl) (by kernel_rfl) (by kernel_rfl) (by kernel_rfl) (by kernel_rfl) (by kernel_rfl) (fun _ _ _ h => h) (Or.inl ⟨by rfl, (by intro W hSW; (try dsimp only at hSW); (try go_split_ands); go_simp <;> with_reducible rfl)⟩) hS0 ?_
          try simp only [Act.put, List.setIfInBounds_toArray, List.set_cons_zero, List.set_cons_succ]
          refine wpAnyU_take (i := 1) [2, 3, 4, 5, 6, 7, 8, 9, 10] rfl (by kernel_rfl) (by kernel_rfl) (by kernel_rfl) (by kernel_rfl) (by kernel_rfl) (by kernel_rfl) (fun _ _ _ h => h) (Or.inl ⟨by rfl, (by intro W hSW; (try dsimp only at hSW); (try go_split_ands); go_simp <;> with_reducible rfl)⟩) hS0 ?_
          try simp only [Act.put, List.setIfInBounds_toArray, List.set_cons_zero, List.set_cons_succ]
          refine wpAnyU_take (i := 2) [3, 4, 5, 6, 7, 8, 9, 10] rfl (by kernel_rfl) (by kernel_rfl) (by kernel_rfl) (by kernel_rfl) (by kernel_rfl) (by kernel_rfl) (fun _ _ _ h => h) (Or.inl ⟨by rfl, (by intro W hSW; (try dsimp only at hSW); (try go_split_ands); go_simp <;> with_reducible rfl)⟩) hS0 ?_
          try simp only [Act.put, List.setIfInBounds_toArray, List.set_cons_zero, List.set_cons_succ]
          refine wpAnyU_take (i := 3) [4, 9, 10] rfl (by kernel_rfl) (by kernel_rfl) (by kernel_rfl) (by kernel_rfl) (by kernel_rfl) (by kernel_rfl) (fun _ _ _ h => h) (Or.inl ⟨by rfl, (by intro W hSW; (try dsimp only at hSW); (try go_split_ands); go_simp <;> with_reducible rfl)⟩) hS0 ?_
          try simp only [Act.put, List.setIfInBounds_toArray, List.set_cons_zero, List.set_cons_succ]
          refine wpAnyU_take (i := 4) [9, 10] rfl (by kernel_rfl) (by kernel_rfl) (by kernel_rfl) (by kernel_rfl) (by kernel_rfl) (by kernel_rfl) (fun _ _ _ h => h) (Or.inl ⟨by rfl, (by intro W hSW; (try dsimp only at hSW); (try go_split_ands); go_simp <;> with_reducible rfl)⟩) hS0 ?_
          try simp only [Act.put, List.setIfInBounds_toArray, List.set_cons_zero, List.set_cons_succ]
          refine wpAnyU_take (i := 5) [7, 8, 9, 10] rfl (by kernel_rfl) (by kernel_rfl) (by kernel_rfl) (by kernel_rfl) (by kernel_rfl) (by kernel_rfl) (fun _ _ _ h => h) (yieldsIf_load_row (by rfl) _ _ rfl w.heap.size rfl _ _ (0, 0) _ (fun W hS => hS.2) Try.underlying52 rfl info13) hS0 ?_
          try simp only [Act.put, List.setIfInBounds_toArray, List.set_cons_zero, List.set_cons_succ]
          refine wpAnyU_take (i := 6) [7, 8, 9, 10] rfl (by kernel_rfl) (by kernel_rfl) (by kernel_rfl) (by kernel_rfl) (by kernel_rfl) (by kernel_rfl) (fun _ _ _ h => h) (Or.inl ⟨by rfl, (by intro W hSW; (try dsimp only at hSW); (try go_split_ands); go_simp <;> with_reducible rfl)⟩) hS0 ?_
          try simp only [Act.put, List.setIfInBounds_toArray, List.set_cons_zero, List.set_cons_succ]
          refine wpAnyU_one (i := 7) (by kernel_rfl) rfl (fun K hK => ?_)
          go_simp
          go_at_call 44
          refine HPG.out.mono ?_
          rintro e w6 ⟨x9, n9, k9, rfl, hn9, ho9, hb9⟩
          have hb6 : Below w5.heap.size w5 w6 := (below_drewN (Below.refl _ _) 1).trans hb9
          have hS6 : (convert 28 9 (.slice (some ⟨wr.heap.size, 0, none⟩) 512 512)).run Try.prog w6 = .ok (.string (strOf P)) w6 ∧ BoxAt w6 w.heap.size #[.slice a0 nb c0, .slice a1 ws.length c1, .int .i64 m.room, .slice a2 la c2, .int .i64 m.certain, .slice a3 lm c3, .int .i64 m.fuse, .int .i64 m.ops, .bool false, .int .i64 lp, .slice a4 n4 c4, .slice a5 m.tail.length c5, .bool m.torn.isSome] := ⟨str_bytes (RdB.below HRD.out hb6), HBX.out.below hb6 HBX.out.lt⟩
          have hs8 := str_bytes (OwnB.rd (F := NoF) ho9 (fun _ _ => noF _))
          have HB6 := Lib.hid (HB5.out.trans (hb6.mono HB5.out.size))
          clear hn9 ho9 hb9 hb6 HPG
          refine hK.out _ _ (fun _ => hS6) (fun _ => ?_)
          clear hK K
          refine wpAnyU_one (i := 8) (by kernel_rfl) rfl (fun K hK => ?_)
          go_simp
          refine hK.out _ _ (fun _ => hS6) (fun _ => ?_)
          clear hK K
          refine wpAnyU_take (i := 9) [10] rfl (by kernel_rfl) (by kernel_rfl) (by kernel_rfl) (by kernel_rfl) (by kernel_rfl) (by kernel_rfl) (fun _ _ _ h => h) (Or.inl ⟨by rfl, (by intro W hSW; (try dsimp only at hSW); (try go_split_ands); go_simp <;> with_reducible rfl)⟩) hS6 ?_
          try simp only [Act.put, List.setIfInBounds_toArray, List.set_cons_zero, List.set_cons_succ]
          refine wpAnyU_take (i := 10) [] rfl (by kernel_rfl) (by kernel_rfl) (by kernel_rfl) (by kernel_rfl) (by kernel_rfl) (by kernel_rfl) (fun _ _ _ h => h) (Or.inl ⟨by rfl, (by intro W hSW; (try dsimp only at hSW); (try go_split_ands); go_simp <;> with_reducible rfl)⟩) hS6 ?_
          try simp only [Act.put, List.setIfInBounds_toArray, List.set_cons_zero, List.set_cons_succ]
          refine wpAnyU_done (by kernel_rfl) ?_ _
          clear hS0 hS6 hs8
          go_wp2
          go_roundw
          case rel => exact ⟨q + 1, by have := HLT.out; omega, by go_num, HB6.out⟩
          case measure => have := HLT.out; simp [intOf]; omega
        · have t2 : ¬ (q : Int) < 64 := by omega
          go_wp2
          go_ret
          exact ⟨rfl, HB7.out.2.2⟩
      · replace heq := heq.symm
        subst heq
        go_wp2
        go_ret
        exact ⟨rfl, HB7.out.2.2⟩
end Mun
