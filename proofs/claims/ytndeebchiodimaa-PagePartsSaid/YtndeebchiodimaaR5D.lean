/- Contracts of munimentref5: New, Check. -/
import Derived.Test.YtndeebchiodimaaR5B
import Derived.Test.YtndeebchiodimaaR5C
import Derived.Test.YtndeebchiodimaaR5P
import Derived.Test.YtndeebchiodimaaKeptPA
import Derived.Test.YtndeebchiodimaaP11
set_option maxRecDepth 100000
set_option linter.unusedVariables false
set_option linter.unusedSimpArgs false
namespace Mun
open Go Go.RowKit
open Go.Proofs

theorem r5new (w : World) (k : Nat) (h : k ≤ 255) : Calls Try.prog 36 #[.int .i64 k] w (PwOut w (newP k)) := by
  have hmk : (Instr.makeSlice 22 (.int .i64 512) (.int .i64 512)).run Try.prog w = .ok (.slice (some ⟨w.heap.size, 0, none⟩) 512 512) (w.alloc (bobj (zer 512))) := make_bytes 512 512 (Nat.le_refl _) (by decide) w
  have h0 : Pw w.heap.size (w.alloc (bobj (zer 512))) w.heap.size 512 512 (zer 512) := ⟨own_block (heap_alloc_new w _) 512 (by simp [zer]) (by decide) (Nat.le_refl _), by simp [zer], by decide⟩
  obtain ⟨w1, hw1⟩ : ∃ w1, w.alloc (bobj (zer 512)) = w1 := ⟨_, rfl⟩
  have hb1 : Below w.heap.size w w1 := by rw [← hw1]; exact (Below.refl _ _).alloc (Nat.le_refl _) _
  rw [hw1] at hmk h0
  have hset := h0.set 12 (by decide) (UInt8.ofNat k) (k : Int) (by rw [UInt8.toNat_ofNat']; omega)
  obtain ⟨b0, hcell⟩ := h0.own.cellEx 12 (by rw [← h0.len]; decide)
  have hfr := h0.own.frozenAt (by rw [← h0.len]; decide) 12
  have hch := chg_set w1 w.heap.size 12 (.int .u8 (k : Int))
  have hp := r5put _ w.heap.size w.heap.size 512 512 _ 16 2 16 2 512 rfl rfl hset (by decide) (by decide) (by decide) (by decide)
  have HP := Lib.hid hp
  have HB := Lib.hid (And.intro hb1 hch)
  have hk : (k : Int) ≤ 255 := by omega
  clear hset h0 hch hp hb1 hw1 h
  go_enter Try.func36, Try.ntmps36
  go_wp2_with fail
  refine HP.out.mono ?_
  rintro e w4 ⟨rfl, hp4, hc4⟩
  have hfin : Hid (PwOut w (newP k) (.returned (.slice (some ⟨w.heap.size, 0, none⟩) 512 512)) w4) := ⟨_, _, rfl, hp4, HB.out.1.trans ((HB.out.2.trans hc4).below HB.out.1.size (fun k hk e => by have h4 : k = w.heap.size := e; omega))⟩
  clear hp4 hc4 HP HB hmk hcell hfr
  go_wp2
  go_ret
  exact hfin.out

/-- all noughts so far -/
def zk (p : PBytes) (k : Nat) : Bool := decide (p.length = 512) && (p.take k).all (· == 0)
theorem zk_zero (p : PBytes) : zk p 0 = decide (p.length = 512) := by simp [zk]
theorem zk_succ (p : PBytes) (k : Nat) (hk : k < p.length) : zk p (k + 1) = (zk p k && (p[k] == 0)) := by
  unfold zk
  rw [take_snoc p k hk, List.all_append, List.all_cons, List.all_nil, Bool.and_true, Bool.and_assoc]
theorem zk_all (p : PBytes) : zk p p.length = decide (p = zer 512) := by
  unfold zk
  rw [List.take_length]
  by_cases h : p = zer 512
  · subst h
    rfl
  · rw [decide_eq_false h]
    by_cases hl : p.length = 512
    · rw [decide_eq_true hl, Bool.true_and]
      by_cases ha : p.all (· == 0) = true
      · exfalso
        apply h
        unfold zer
        rw [List.eq_replicate_iff]
        refine ⟨hl, fun b hb => ?_⟩
        rw [List.all_eq_true] at ha
        simpa using ha b hb
      · simpa using ha
    · rw [decide_eq_false hl, Bool.false_and]

set_option maxHeartbeats 1000000 in
theorem r5check {F : Foot} (w : World) (v : Value) (p : List UInt8) (hv : RdB F w v p) : Calls Try.prog 35 #[v] w fun e w' => e = .returned (.int .i64 (checkP p)) ∧ Below w.heap.size w w' := by
  have HV := Lib.hid hv
  have hcell : ∀ k, k < p.length → ∃ g off c z, v = .slice (some ⟨g, off, none⟩) p.length c ∧ w.cell? ⟨g, off + k, none⟩ = some (.int .u8 ((z : Nat) : Int)) ∧ (z = 0 ↔ p[k]? = some 0) := by
    intro k hk
    obtain ⟨g, off, c, rfl, -, -, -, -, hcells⟩ := hv.at_ (by omega)
    have h1 := hcells k hk
    refine ⟨g, off, c, p[k].toNat, rfl, h1, ?_⟩
    rw [List.getElem?_eq_getElem hk]
    constructor
    · intro h; congr 1; exact UInt8.toNat_inj.1 h
    · intro h; injection h with h; rw [h]; rfl
  have HC := Lib.hid hcell
  obtain ⟨a, n, c, rfl, HN, hlc, hcm⟩ := hv.formN
  have hnm : (n : Int) ≤ 9223372036854775807 := by unfold maxLen at hcm; omega
  have htest : ((n : Int) == 512) = zk p 0 := by
    rw [zk_zero, ← HN.out]
    by_cases h : n = 512
    · subst h; rfl
    · rw [decide_eq_false h]; simp; omega
  obtain ⟨b0, hb0⟩ : ∃ b, zk p 0 = b := ⟨_, rfl⟩
  rw [hb0] at htest
  have HB0 := Lib.hid hb0
  clear hv hcell hcm hlc hb0
  go_enter Try.func35, Try.ntmps35
  go_wp2
  go_loop [3, 4] (fun z i => ∃ k : Nat, k ≤ n ∧ i = .int .i64 (k : Int) ∧ z = .bool (zk p k)) (fun _ i => n - (intOf i).toNat)
  case atStart => exact ⟨0, by omega, rfl, by rw [HB0.out]⟩
  case round =>
    obtain ⟨k, hk, rfl, rfl⟩ := hrel
    rcases Nat.lt_or_eq_of_le hk with hlt | heq
    · have hkp : k < p.length := by rw [← HN.out]; exact hlt
      obtain ⟨g, off, c2, z, e, hz1, hz2⟩ := HC.out k hkp
      injection e with e1 _ e3
      subst e1 e3
      have hs := zk_succ p k hkp
      have hpz : (p[k] == 0) = decide (z = 0) := by
        rw [List.getElem?_eq_getElem hkp] at hz2
        by_cases h : z = 0
        · have := hz2.1 h
          injection this with this
          rw [this, decide_eq_true h]; rfl
        · rw [decide_eq_false h]
          have : ¬ p[k] = 0 := fun h2 => h (hz2.2 (by rw [h2]))
          simpa using this
      rw [hpz] at hs
      obtain ⟨b, hb⟩ : ∃ b, zk p k = b := ⟨_, rfl⟩
      rw [hb] at hs ⊢
      have HS := Lib.hid (And.intro hs hlt)
      have hki : (k : Int) < (n : Int) := by omega
      have hk0 : (0 : Int) ≤ (k : Int) := by omega
      clear hkp hz2 hs hpz hb hlt hk
      cases b with
      | true =>
        by_cases h0 : z = 0
        · subst h0
          have t0 : (((0 : Nat) : Int) == 0) = true := rfl
          go_wp2
          go_round
          case rel => exact ⟨k + 1, by have := HS.out.2; omega, by go_num, by rw [HS.out.1]; rfl⟩
          case measure => have := HS.out.2; simp [intOf]; omega
        · have t0 : ((z : Int) == 0) = false := by simpa using h0
          have HF : Hid (decide (z = 0) = false) := by show _ = _; exact decide_eq_false h0
          clear h0
          go_wp2
          go_round
          case rel => exact ⟨k + 1, by have := HS.out.2; omega, by go_num, by rw [HS.out.1, HF.out]; rfl⟩
          case measure => have := HS.out.2; simp [intOf]; omega
      | false =>
        go_wp2
        go_round
        case rel => exact ⟨k + 1, by have := HS.out.2; omega, by go_num, by rw [HS.out.1]; rfl⟩
        case measure => have := HS.out.2; simp [intOf]; omega
    · subst heq
      have hza := zk_all p
      rw [← HN.out] at hza
      rw [hza]
      clear hza hk
      by_cases hz : p = zer 512
      · have HR : Hid (checkP p = 0) := by show _ = _; unfold checkP; rw [if_pos hz]
        rw [decide_eq_true hz]
        clear hz
        go_wp2
        go_ret
        exact ⟨by rw [HR.out]; rfl, Below.refl _ _⟩
      · rw [decide_eq_false hz]
        have hgd := r5good w _ p HV.out
        by_cases hg : GoodP p
        · rw [goodB_true hg] at hgd
          have HP : Hid (p.length = 512) := hg.len
          have HCK : Hid (checkP p = if gt p 0 4 ≠ (crcOf (p.drop 4)).toNat then 8 else 0) := by show _ = _; unfold checkP; rw [if_neg hz, if_neg (by simpa using hg)]
          have HGD := Lib.hid hgd
          have hn512 : k = 512 := by rw [HN.out]; exact hg.len
          subst hn512
          clear hz hgd hg
          go_wp2_with fail
          refine HGD.out.mono ?_
          rintro e w2 ⟨rfl, hb2⟩
          have hv2 := RdB.below HV.out hb2
          obtain ⟨a4, c4, hsl, hr4⟩ := slice_rest hv2 4 4 rfl (by decide) HP.out.symm
          have hgt := fun j => r5get (w2.drewN j) _ p 0 4 0 4 rfl rfl (hv2.drewN j) (by rw [HP.out]; decide) (by decide)
          have hof := fun j => refof_any (w2.drewN j) _ (p.drop 4) (hr4.drewN j)
          obtain ⟨x, hx⟩ : ∃ x, gt p 0 4 = x := ⟨_, rfl⟩
          have hxb : x < 4294967296 := by rw [← hx]; exact gt4_lt p 0
          have hsb := (crcOf (p.drop 4)).isLt
          obtain ⟨s, hs⟩ : ∃ s, (crcOf (p.drop 4)).toNat = s := ⟨_, rfl⟩
          rw [hs] at hsb hof HCK
          rw [hx] at hgt HCK
          have HGT := Lib.hid hgt
          have HOF := Lib.hid hof
          have HB2 := Lib.hid hb2
          have hxi : (x : Int) < 4294967296 := by omega
          have hx0 : (0 : Int) ≤ (x : Int) := by omega
          have hsi : (s : Int) < 4294967296 := by omega
          clear hv2 hr4 hgt hof hx hs hb2 HGD hxb hsb
          by_cases hxs : x = s
          · have t1 : ((x : Int) != (s : Int)) = false := by simp [hxs]
            have HR : Hid (checkP p = 0) := by show _ = _; rw [HCK.out, if_neg (by simp [hxs])]
            clear hxs
            go_wp2
            go_quiet ((first | (go_at_call 55; exact quiet_eq (HGT.out _)) | (go_at_call 63; exact quiet_eq (HOF.out _))))
            go_wp2
            go_ret
            exact ⟨by rw [HR.out]; rfl, below_drewN HB2.out _⟩
          · have t1 : ((x : Int) != (s : Int)) = true := by
              have h3 : ¬ ((x : Int) = (s : Int)) := by omega
              simpa using h3
            have HR : Hid (checkP p = 8) := by show _ = _; rw [HCK.out, if_pos hxs]
            clear hxs
            go_wp2
            go_quiet ((first | (go_at_call 55; exact quiet_eq (HGT.out _)) | (go_at_call 63; exact quiet_eq (HOF.out _))))
            go_wp2
            go_ret
            exact ⟨by rw [HR.out]; rfl, below_drewN HB2.out _⟩
        · rw [goodB_false hg] at hgd
          have HR : Hid (checkP p = 4) := by show _ = _; unfold checkP; rw [if_neg hz, if_pos hg]
          have HGD := Lib.hid hgd
          clear hz hgd hg
          go_wp2_with fail
          refine HGD.out.mono ?_
          rintro e w2 ⟨rfl, hb2⟩
          have HB2 := Lib.hid hb2
          clear hb2
          go_wp2
          go_ret
          exact ⟨by rw [HR.out]; rfl, HB2.out⟩
end Mun
