/- Contracts of the laws' own: ones, Ask. -/
import Derived.Test.YtmlggofojdhmmaaDiskG
import Derived.Deep.RegionHeld
set_option maxRecDepth 100000
set_option linter.unusedVariables false
namespace Mun
open Go Go.RowKit
open Go.Proofs

def onesL : Bytes := List.replicate 512 1
theorem onesL_length : onesL.length = 512 := List.length_replicate
def onesUpto (i : Nat) : Bytes := List.replicate i 1 ++ List.replicate (512 - i) 0
theorem onesUpto_length (i : Nat) (h : i ≤ 512) : (onesUpto i).length = 512 := by simp [onesUpto]; omega
theorem onesUpto_zero : onesUpto 0 = List.replicate 512 0 := by simp [onesUpto]
theorem onesUpto_all : onesUpto 512 = onesL := by simp [onesUpto, onesL]
theorem onesUpto_set (i : Nat) (h : i < 512) : (onesUpto i).set i 1 = onesUpto (i + 1) := by
  unfold onesUpto
  obtain ⟨k, hk⟩ : ∃ k, 512 - i = k + 1 := ⟨511 - i, by omega⟩
  have hk2 : 512 - (i + 1) = k := by omega
  rw [hk, hk2, List.replicate_succ, List.set_append_right _ _ (by simp), List.length_replicate, Nat.sub_self, List.set_cons_zero, List.replicate_succ', List.append_assoc]
  rfl

theorem ones_any (w : World) : Calls Try.prog 13 #[] w fun e w' => e = .returned (.slice (some ⟨w.heap.size, 0, none⟩) 512 512) ∧ w.alloc (bobj onesL) = w' := by
  have hm0 : (Instr.makeSlice 28 (.int .i64 512) (.int .i64 512)).run Try.prog w = .ok (.slice (some ⟨w.heap.size, 0, none⟩) 512 512) (w.alloc (bobj (onesUpto 0))) := by
    rw [onesUpto_zero]
    exact make_bytes 512 512 (Nat.le_refl _) (by decide) w
  go_enter Try.func13, Try.ntmps13
  go_wp2
  go_loopw [2] (fun i wr => ∃ j : Nat, j ≤ 512 ∧ i = .int .i64 (j : Int) ∧ w.alloc (bobj (onesUpto j)) = wr) (fun i _ => 512 - (intOf i).toNat)
  case atStart => exact ⟨0, by omega, rfl, rfl⟩
  case round =>
    obtain ⟨j, hj, rfl, rfl⟩ := hrel
    rcases Nat.lt_or_eq_of_le hj with hlt | heq
    · have hlen := onesUpto_length j hj
      have hc : ∃ bb : Int, (w.alloc (bobj (onesUpto j))).cell? ⟨w.heap.size, j, none⟩ = some (.int .u8 bb) := ⟨_, bobj_cell w (onesUpto j) j (by omega)⟩
      obtain ⟨bb, hc⟩ := hc
      have hf := bobj_frozen w (onesUpto j) j
      have Hs : Hid ((w.alloc (bobj (onesUpto j))).setCell ⟨w.heap.size, j, none⟩ (.int .u8 1) = w.alloc (bobj (onesUpto (j + 1)))) := by
        show _ = _
        rw [← onesUpto_set j hlt]
        exact bobj_set w (onesUpto j) j 1 1 (by decide)
      clear hlen
      go_wp2
      go_roundw
      case rel => exact ⟨j + 1, by omega, by go_num, Hs.out.symm⟩
      case measure => simp [intOf]; omega
    · have hge := Nat.le_of_eq heq.symm
      have HE := Lib.hid heq
      clear heq
      go_wp2
      go_ret
      rw [HE.out, onesUpto_all]
      exact ⟨rfl, rfl⟩

/-- the device of awake, with its page written -/
def awakeM : DM := ((DM.new 4 10).write 1 onesL).1
theorem awakeM_write : (DM.new 4 10).write 1 onesL = (awakeM, 0) := by
  unfold awakeM DM.write
  rw [if_neg (by simp [DM.new]), if_neg (by simp [DM.new, onesL_length]), if_neg (by simp [DM.new])]
theorem awakeM_eq : awakeM = { (DM.new 4 10).spend with waiting := [(1, onesL)] } := by
  unfold awakeM DM.write
  rw [if_neg (by simp [DM.new]), if_neg (by simp [DM.new, onesL_length]), if_neg (by simp [DM.new])]
  rfl
theorem awakeM_page : awakeM.page 1 = onesL := by rw [awakeM_eq]; rfl

set_option maxHeartbeats 800000 in
theorem awake6 (w : World) : Calls Try.prog 10 #[] w fun e w' => e = .returned (.bool true) ∧ Below w.heap.size w w' := by
  have hnew := d_new w 4 10 (by decide) (by decide) (by decide)
  go_enter Try.func10, Try.ntmps10
  go_wp2_with fail
  refine hnew.mono ?_
  rintro e w1 ⟨rfl, hw1⟩
  have hd1 : DiskAt w1 (w.heap.size + 2) NoF (newFoot w) (DM.new 4 10) := by rw [← hw1]; exact new_disk w 4 10 (fun _ h => False.elim h) (by decide) (by decide)
  have hb1 : Below w.heap.size w w1 := by
    rw [← hw1]
    exact below_more (below_more (below_more (Below.refl _ _) _) _) _
  have hF1 : ∀ k, newFoot w k → w.heap.size ≤ k := by intro k hk; unfold newFoot at hk; omega
  have H1 := Lib.hid hd1
  have HB1 := Lib.hid hb1
  clear hw1 hd1 hb1 hnew
  go_wp2_with fail
  refine (ones_any w1).mono ?_
  rintro e w2 ⟨rfl, hw2⟩
  have hd2 : DiskAt w2 (w.heap.size + 2) NoF (newFoot w) (DM.new 4 10) := by rw [← hw2]; exact H1.out.below ((Below.refl _ _).alloc (Nat.le_refl _) _)
  have ho2 : RdB (newFoot w) w2 (.slice (some ⟨w1.heap.size, 0, none⟩) 512 512) onesL := by
    rw [← hw2]
    exact bobj_rd w1 onesL 512 rfl (by decide) (fun hk => absurd (H1.out.foot_lt _ hk) (Nat.lt_irrefl _))
  have hb2 : Below w.heap.size w w2 := by rw [← hw2]; exact HB1.out.alloc HB1.out.size _
  have H2 := Lib.hid hd2
  have HO2 := Lib.hid ho2
  have HB2 := Lib.hid hb2
  clear hw2 hd2 ho2 hb2
  go_wp2_with fail
  refine (d_write w2 _ _ _ H2.out (by decide) 1 _ onesL HO2.out).mono ?_
  rw [awakeM_write]
  rintro e w3 ⟨rfl, F3, h3, hc3⟩
  have hF3 : ∀ k, F3 k → w.heap.size ≤ k := fun k hk => by
    rcases hc3.foot k hk with h | h
    · exact hF1 k h
    · have := HB2.out.size; omega
  have hb3 : Below w.heap.size w w3 := HB2.out.trans (hc3.below HB2.out.size (fun k hk hk2 => by have := hF1 k hk2; omega))
  have hR := d_read w3 _ F3 awakeM h3 (by rw [awakeM_eq]; rfl) 1 (by rw [awakeM_eq]; decide)
  rw [awakeM_page] at hR
  have H3 := Lib.hid h3
  have HB3 := Lib.hid hb3
  clear h3 hc3 hb3
  go_wp2_with fail
  refine hR.mono ?_
  rintro e w4 ⟨rfl, hw4⟩
  have hd4 : DiskAt w4 (w.heap.size + 2) NoF F3 awakeM := by rw [← hw4]; exact H3.out.below ((Below.refl _ _).alloc (Nat.le_refl _) _)
  have hb4 : Below w.heap.size w w4 := by rw [← hw4]; exact HB3.out.alloc HB3.out.size _
  have hp4 : RdB NoF w4 (.slice (some ⟨w3.heap.size, 0, none⟩) 512 512) onesL := by rw [← hw4]; exact bobj_rd w3 onesL 512 rfl (by decide) (noF _)
  have hs4 : (convert 28 9 (.slice (some ⟨w3.heap.size, 0, none⟩) 512 512)).run Try.prog w4.drew = .ok (.string (strOf onesL)) w4.drew := str_bytes (F := NoF) (w := w4.drew) hp4
  have HD4 := Lib.hid hd4
  have HB4 := Lib.hid hb4
  have HP4 := Lib.hid hp4
  have hpg : Hid (awakeM.base.length = 4 ∧ awakeM.room = 10) := by show _ ∧ _; rw [awakeM_eq]; exact ⟨rfl, rfl⟩
  clear hw4 hd4 hb4 hp4 hR
  go_wp2
  have hS4 : (convert 28 9 (.slice (some ⟨w3.heap.size, 0, none⟩) 512 512)).run Try.prog w4.drew = .ok (.string (strOf onesL)) w4.drew ∧ DiskAt w4.drew (w.heap.size + 2) NoF F3 awakeM ∧ Below w.heap.size w w4.drew :=
    ⟨hs4, HD4.out.drewN 1, below_drewN HB4.out 1⟩
  go_region_held (fun W => (convert 28 9 (.slice (some ⟨w3.heap.size, 0, none⟩) 512 512)).run Try.prog W = .ok (.string (strOf onesL)) W ∧ DiskAt W (w.heap.size + 2) NoF F3 awakeM ∧ Below w.heap.size w W)
    (first | assumption | exact hS4)
    (first
    | (go_at_call 13
       refine (ones_any _).mono ?_
       rintro e w5 ⟨rfl, hw5⟩
       have hS5 : (convert 28 9 (.slice (some ⟨w3.heap.size, 0, none⟩) 512 512)).run Try.prog w5 = .ok (.string (strOf onesL)) w5 ∧ DiskAt w5 (w.heap.size + 2) NoF F3 awakeM ∧ Below w.heap.size w w5 := by
         rw [← hw5]
         exact ⟨str_bytes (F := NoF) (RdB.alloc (w := w4.drew) HP4.out _), DiskAt.below (w := w4.drew) (HD4.out.drewN 1) ((Below.refl _ _).alloc (Nat.le_refl _) _), (below_drewN HB4.out 1).alloc HB4.out.size _⟩
       have hs6 : (convert 28 9 (.slice (some ⟨w4.heap.size, 0, none⟩) 512 512)).run Try.prog w5 = .ok (.string (strOf onesL)) w5 := by
         rw [← hw5]
         exact str_bytes (F := NoF) (bobj_rd w4.drew onesL 512 rfl (by decide) (noF _))
       have hg5 := d_pages w5 _ _ _ hS5.2.1
       have hr5 := d_room w5 _ _ _ hS5.2.1
       rw [hpg.out.1] at hg5
       rw [hpg.out.2] at hr5
       clear hw5)
    | (go_at_call 29
       refine hg5.mono ?_
       rintro e w6 ⟨rfl, rfl⟩)
    | (go_at_call 30
       refine hr5.mono ?_
       rintro e w6 ⟨rfl, rfl⟩))
  all_goals
    go_wp2
    go_ret
    exact ⟨rfl, hS5.2.2⟩

def DM.ask (m : DM) (op n : Int) (b : Bytes) : DM × Int :=
  if op = 0 then m.write n b else if op = 1 then m.sync else if op = 2 then m.append b else if op = 3 then m.force else if op = 4 then m.cut n b else if op = 5 then m.trim n else m.setMark b

section
variable (w : World) (D : Nat) (F : Foot) {E : Foot} (m : DM)

set_option maxHeartbeats 800000 in
theorem ask_any (h : DiskAt w D E F m) (ho : m.ops < 4398046511104) (op n : Int) (v : Value) (b : Bytes) (hv : RdB F w v b) : Calls Try.prog 25 #[.pointer (some ⟨D, 0, none⟩), .int .i64 op, .int .i64 n, v] w (DPost w D E F (m.ask op n b)) := by
  obtain ⟨a0, n0, c0, rfl, HN0, hlc0, hcm0⟩ := hv.formN
  have HV := Lib.hid hv
  clear hv
  by_cases h0 : op = 0
  · subst h0
    have HR : Hid (m.ask 0 n b = m.write n b) := by show _ = _; rfl
    go_enter Try.func25, Try.ntmps25
    go_wp2_with fail
    refine (d_write w D F m h ho n _ b HV.out).mono ?_
    rintro e w' ⟨rfl, hP⟩
    go_wp2
    go_ret
    rw [HR.out]
    exact ⟨rfl, hP⟩
  have t0 : (op == 0) = false := by simpa using h0
  by_cases h1 : op = 1
  · subst h1
    have HR : Hid (m.ask 1 n b = m.sync) := by show _ = _; rfl
    go_enter Try.func25, Try.ntmps25
    go_wp2_with fail
    refine (d_sync w D F m h ho).mono ?_
    rintro e w' ⟨rfl, hP⟩
    go_wp2
    go_ret
    rw [HR.out]
    exact ⟨rfl, hP⟩
  have t1 : (op == 1) = false := by simpa using h1
  by_cases h2 : op = 2
  · subst h2
    have HR : Hid (m.ask 2 n b = m.append b) := by show _ = _; rfl
    go_enter Try.func25, Try.ntmps25
    go_wp2_with fail
    refine (d_append w D F m h ho _ b HV.out).mono ?_
    rintro e w' ⟨rfl, hP⟩
    go_wp2
    go_ret
    rw [HR.out]
    exact ⟨rfl, hP⟩
  have t2 : (op == 2) = false := by simpa using h2
  by_cases h3 : op = 3
  · subst h3
    have HR : Hid (m.ask 3 n b = m.force) := by show _ = _; rfl
    go_enter Try.func25, Try.ntmps25
    go_wp2_with fail
    refine (d_force w D F m h ho).mono ?_
    rintro e w' ⟨rfl, hP⟩
    go_wp2
    go_ret
    rw [HR.out]
    exact ⟨rfl, hP⟩
  have t3 : (op == 3) = false := by simpa using h3
  by_cases h4 : op = 4
  · subst h4
    have HR : Hid (m.ask 4 n b = m.cut n b) := by show _ = _; rfl
    go_enter Try.func25, Try.ntmps25
    go_wp2_with fail
    refine (d_cut w D F m h ho n _ b HV.out).mono ?_
    rintro e w' ⟨rfl, hP⟩
    go_wp2
    go_ret
    rw [HR.out]
    exact ⟨rfl, hP⟩
  have t4 : (op == 4) = false := by simpa using h4
  by_cases h5 : op = 5
  · subst h5
    have HR : Hid (m.ask 5 n b = m.trim n) := by show _ = _; rfl
    go_enter Try.func25, Try.ntmps25
    go_wp2_with fail
    refine (d_trim w D F m h ho n).mono ?_
    rintro e w' ⟨rfl, hP⟩
    go_wp2
    go_ret
    rw [HR.out]
    exact ⟨rfl, hP⟩
  have t5 : (op == 5) = false := by simpa using h5
  have HR : Hid (m.ask op n b = m.setMark b) := by show _ = _; unfold DM.ask; rw [if_neg h0, if_neg h1, if_neg h2, if_neg h3, if_neg h4, if_neg h5]
  go_enter Try.func25, Try.ntmps25
  go_wp2_with fail
  refine (d_mark w D F m h ho _ b HV.out).mono ?_
  rintro e w' ⟨rfl, hP⟩
  go_wp2
  go_ret
  rw [HR.out]
  exact ⟨rfl, hP⟩
end
end Mun
