/- The walk of PoolPins. -/
import Derived.Test.YtjfepmohoijalaaPoolT
import Derived.Deep.CutBlock
set_option maxRecDepth 100000
set_option linter.unusedVariables false
set_option linter.unusedSimpArgs false
namespace Mun
open Go Go.RowKit
open Go.Proofs

set_option maxHeartbeats 4000000 in
theorem pins_law (w : World) (fr : Int) (lv : Value) (xs : List Int) (hv : RdV NoF w 1 lv xs.length (zv xs)) (hxl : xs.length ≤ 70368744177664) :
    Calls Try.prog 3 #[.int .i64 fr, lv] w fun e w' => e = .returned (.bool true) ∧ Below w.heap.size w w' := by
  obtain ⟨la, ln, lc, rfl, hln, hlc⟩ : ∃ la ln lc, lv = .slice la ln lc ∧ xs.length = ln ∧ ln ≤ lc := by
    obtain ⟨a, c, e, h1, h2⟩ := hv.form
    exact ⟨a, _, c, e, rfl, h1⟩
  obtain ⟨c, hc, hc8⟩ := and_7 fr
  have haw := awake8 w
  have HAW := Lib.hid haw
  have HV := Lib.hid (And.intro hv (And.intro hln hxl))
  clear hv haw hxl hln
  go_enter Try.func3, Try.ntmps3
  go_wp2_with fail
  refine HAW.out.mono ?_
  rintro e w1 ⟨rfl, hb1⟩
  have hbe : Calls Try.prog 6 #[.int .i64 24, .int .i64 65536, .int .i64 (1 + (c : Int))] w1 (BenchOut w1 24 65536 (1 + c)) := bench_any w1 24 65536 (1 + c) (by decide) (by decide) (by decide) (by omega) (by omega)
  have HBE := Lib.hid hbe
  have HB1 := Lib.hid hb1
  clear hbe hb1 HAW
  go_wp2_with fail
  refine HBE.out.mono ?_
  rintro e w2 ⟨D, L, Pb, g, Fd, rfl, hat, hb2, hpf⟩
  obtain ⟨w3, hw3⟩ : ∃ w3, w2.alloc (.cells #[.pointer (some ⟨D, 0, none⟩), .pointer (some ⟨L, 0, none⟩), .pointer (some ⟨Pb, 0, none⟩)] 28) = w3 := ⟨_, rfl⟩
  have hb23 : Below w2.heap.size w2 w3 := by rw [← hw3]; exact (Below.refl _ _).alloc (Nat.le_refl _) _
  obtain ⟨Bx, hBx⟩ : ∃ Bx, w2.heap.size = Bx := ⟨_, rfl⟩
  have kB : w3.heap[Bx]? = some (.cells (bcells D L Pb) 28 (0, 0)) := by rw [← hw3, ← hBx]; exact heap_alloc_new w2 _
  obtain ⟨k, hk⟩ : ∃ k, 1 + c = k := ⟨_, rfl⟩
  have hkc : 1 + (c : Int) = (k : Int) := by omega
  have hk8 : 1 ≤ k ∧ k ≤ 8 := by omega
  rw [hk] at hat hpf
  have hat3 := hat.below hb23
  have hps : PS w1 w3 D L Pb Bx (.slice none 0 0) Fd (PM.new k) (newPLV g k) [] k :=
    ⟨⟨hat3.disk.sub (fun k hk => hk.elim .inl (fun h => by simp [ZQ, qblk] at h)), hat3.rep.keep (fun _ _ _ => rfl) (fun k _ hk => by
        rcases hk with (hk | hk) | hk
        · exact .inl (.inl hk)
        · simp [ZQ, qblk] at hk
        · exact .inr hk), rfl⟩, ⟨kB, .inl ⟨rfl, rfl⟩, hb2.trans (hb23.mono hb2.size), hpf, fun k hk => by simp [qblk] at hk⟩, PinI.new k 24, Nat.zero_le _⟩
  have HPS := Lib.hid hps
  have HB3 := Lib.hid (hb2.trans (hb23.mono hb2.size))
  have HK := Lib.hid hk8
  clear hat hb2 hpf hb23 kB hat3 hps hk hc8 hk8
  go_wp2
  clear hw3 hBx
  go_loopw [8, 9, 10, 11, 12, 13, 14, 15, 16, 17, 18, 70, 75, 86] (fun q i _ _ _ _ _ _ _ _ _ _ _ _ wr => ∃ (j : Nat) (p : PM) (v : PLV) (held : List Int), j ≤ ln ∧ i = .int .i64 (j : Int) ∧ PS w1 wr D L Pb Bx q Fd p v held k) (fun _ i _ _ _ _ _ _ _ _ _ _ _ _ _ => ln - (intOf i).toNat)
  case atStart => exact ⟨0, _, _, _, Nat.zero_le _, rfl, HPS.out⟩
  case round =>
    obtain ⟨j, p, v, held, hj, rfl, hps⟩ := hrel
    rcases Nat.lt_or_eq_of_le hj with hjl | rfl
    · obtain ⟨x, hx⟩ : ∃ x, xs[j]? = some x := ⟨_, List.getElem?_eq_getElem (by rw [HV.out.2.1]; exact hjl)⟩
      obtain ⟨lg, lo, lc', e, -, -, -, -, hcell⟩ := ((HV.out.1.below HB1.out).below (w' := _) (hps.mem.below)).at_ (by rw [HV.out.2.1]; omega)
      injection e with e1 e2 e3
      subst e1 e3
      clear e2
      have cl := hcell j (.int .i64 x) (by simp [zv, hx])
      obtain ⟨n, hn, hn32⟩ := and_31 x
      have cB : World.cell? _ ⟨Bx, 2, none⟩ = some (.pointer (some ⟨Pb, 0, none⟩)) := cell_of_row _ _ 2 _ _ _ hps.mem.box
      obtain ⟨qa, qn, qc, rfl, hqn, hqc⟩ := hps.mem.row.form
      have j1 : (j : Int) < (ln : Int) := by omega
      have j0 : (0 : Int) ≤ (j : Int) := by omega
      have hpin := pin_any hps n
      have HPIN := Lib.hid hpin
      have HQ := Lib.hid (And.intro hqn (And.intro hn32 hjl))
      clear hpin hps hcell hx hqn hn32 hj hjl
      go_wp2_with fail
      refine HPIN.out.mono ?_
      rintro e w5 ⟨xa, xl, ev, rfl, hcase⟩
      have HC := Lib.hid hcase
      clear hcase HPIN
      go_wp2
      obtain ⟨⟨vm, hpm⟩, hkl⟩ := HC.out.mem
      have hrow5 := hpm.row
      have hbox5 := hpm.box
      have HR5 := Lib.hid (And.intro hrow5 (And.intro hbox5 hkl))
      clear hpm hrow5 hbox5 hkl cl cB
      go_loopw [13, 14] (fun b jj wq => ∃ m : Nat, m ≤ qn ∧ b = .bool (decide ((n : Int) ∈ held.take m)) ∧ jj = .int .i64 (m : Int) ∧ wq = w5) (fun _ jj _ => qn - (intOf jj).toNat)
      case atStart => exact ⟨0, Nat.zero_le _, by simp, rfl, rfl⟩
      case round =>
        obtain ⟨m, hm, rfl, rfl, rfl⟩ := hrel
        obtain ⟨tb, htb⟩ : ∃ tb, decide ((n : Int) ∈ held.take m) = tb := ⟨_, rfl⟩
        rw [htb]
        rcases Nat.lt_or_eq_of_le hm with hml | rfl
        · obtain ⟨y, hy⟩ : ∃ y, held[m]? = some y := ⟨_, List.getElem?_eq_getElem (by have := HQ.out.1; omega)⟩
          obtain ⟨hg, ho, hcp, e, -, hcel⟩ := HR5.out.1.at_ m y hy
          injection e with e1 e2 e3
          subst e1 e3
          clear e2
          have m1 : (m : Int) < (qn : Int) := by omega
          have m0 : (0 : Int) ≤ (m : Int) := by omega
          have HWJ : Hid (wrap64 ((m : Int) + 1) = (m : Int) + 1) := by show _ = _; have h9 := HR5.out.2.2; have h8 := HQ.out.1; have h7 := HK.out.2; unfold wrap64; omega
          have htk : decide ((n : Int) ∈ held.take (m + 1)) = (tb || decide ((n : Int) = y)) := by
            rw [List.take_add_one, hy, ← htb]
            simp only [List.mem_append, Option.toList_some, List.mem_singleton]
            rw [Bool.decide_or]
          have HT := Lib.hid (And.intro htk hml)
          clear htk hml htb hy hm
          cases tb with
          | true =>
            go_wp2
            go_roundw
            case rel => exact ⟨m + 1, by have := HT.out.2; omega, by rw [HT.out.1]; rfl, by rw [HWJ.out]; rfl, by trivial⟩
            case measure => have := HT.out.2; rw [HWJ.out]; simp [intOf]; omega
          | false =>
            by_cases hyn : y = (n : Int)
            · subst hyn
              go_wp2
              go_roundw
              case rel => exact ⟨m + 1, by have := HT.out.2; omega, by rw [HT.out.1]; simp, by rw [HWJ.out]; rfl, by trivial⟩
              case measure => have := HT.out.2; rw [HWJ.out]; simp [intOf]; omega
            · have hyn' : ¬ (n : Int) = y := fun e => hyn e.symm
              have HYN := Lib.hid hyn'
              go_wp2
              go_roundw
              case rel => exact ⟨m + 1, by have := HT.out.2; omega, by rw [HT.out.1]; simp [HYN.out, hyn], by rw [HWJ.out]; rfl, by trivial⟩
              case measure => have := HT.out.2; rw [HWJ.out]; simp [intOf]; omega
        · have hin : decide ((n : Int) ∈ held) = tb := by rw [← htb, List.take_of_length_le (by have := HQ.out.1; omega)]
          have HIN := Lib.hid hin
          clear hin htb hm
          go_upto_block 4 with (fail)
          obtain ⟨w6, hw6⟩ : ∃ w6, w6 = wr := ⟨_, rfl⟩
          subst hw6
          have HCC := HC
          clear HC
          go_cut [8] (fun s8 wx => ∃ (p : PM) (v : PLV) (held : List Int), PS w1 wx D L Pb Bx s8 Fd p v held k)
          case first =>
            have cB : w6.cell? ⟨Bx, 2, none⟩ = some (.pointer (some ⟨Pb, 0, none⟩)) := cell_of_row _ _ 2 _ _ _ HR5.out.2.1
            have hcase := HCC.out
            cases hcase with
            | arg h24 hps =>
              have n1 : (24 : Int) ≤ (n : Int) := by omega
              have HPS := Lib.hid hps
              clear hps h24 HCC cB
              go_wp2
              go_meet
              exact ⟨_, _, _, HPS.out⟩
            | @held p' v' i' x' h24 hh hpl hmm hx' hp' hpn hpi hkl =>
              have n1 : (n : Int) < (24 : Int) := by omega
              obtain rfl : tb = true := by rw [← HIN.out]; exact decide_eq_true hh
              have hup := unpin_at hpl (n : Int) i' x' hx' hp' (by omega) (by omega) (by omega)
              have HUP := Lib.hid hup
              have HS := Lib.hid (And.intro hpl (And.intro hmm (And.intro hpi hkl)))
              clear hup hpl hmm hx' hp' hpn hpi hkl HCC h24 hh
              go_wp2_with fail
              refine HUP.out.mono ?_
              rintro e w7 ⟨rfl, hat7, hc7⟩
              have hfin : PS w1 w7 D L Pb Bx (.slice qa m qc) Fd _ _ held k := ⟨hat7, HS.out.2.1.turn HS.out.1 hc7 rfl, HS.out.2.2.1, HS.out.2.2.2⟩
              have HF := Lib.hid hfin
              clear hat7 hc7 hfin HUP HS
              go_wp2
              go_meet
              exact ⟨_, _, _, HF.out⟩
            | @full p' v' h24 hh hk hps =>
              have n1 : (n : Int) < (24 : Int) := by omega
              obtain rfl : tb = false := by rw [← HIN.out]; exact decide_eq_false hh
              obtain rfl : k = m := by have := HQ.out.1; omega
              have hm0 : held.length = k := HQ.out.1.symm
              obtain ⟨h0, tl, rfl⟩ : ∃ h0 tl, held = h0 :: tl := by
                cases held with
                | nil => have := HK.out.1; simp at hk; omega
                | cons a b => exact ⟨a, b, rfl⟩
              have hpd := hps.more (below_drewN (Below.refl _ _) 1)
              obtain ⟨hg, ho, hcp, e, -, hcel⟩ := hpd.mem.row.at_ 0 h0 rfl
              injection e with e1 e2 e3
              subst e1 e3
              clear e2
              have hcel' : (w6.drewN 1).cell? ⟨hg, ho, none⟩ = some (.int .i64 h0) := hcel
              obtain ⟨i', y', hy, hyp, hyn, h00, hpi, hil⟩ := hpd.first
              have hu1 := unpin_at hpd.pool h0 i' y' hy hyp h00 (by omega) (by omega)
              have HU1 : Hid (Calls Try.prog 8 #[.pointer (some ⟨Pb, 0, none⟩), .int .i64 h0] w6.drew _) := hu1
              have hS0 : w6.drew.cell? ⟨Bx, 2, none⟩ = some (.pointer (some ⟨Pb, 0, none⟩)) ∧ w6.drew.cell? ⟨hg, ho, none⟩ = some (.int .i64 h0) := ⟨cell_of_row _ _ 2 _ _ _ hpd.mem.box, hcel'⟩
              have HPD := Lib.hid (And.intro hpd (And.intro hyp (And.intro hyn (And.intro h00 (And.intro hpi (And.intro hil (And.intro hk hm0)))))))
              have mm0 : (0 : Int) < (k : Int) := by have := HK.out.1; omega
              have mm4 : 0 < k := by have := HK.out.1; omega
              have mm2 : (1 : Int) ≤ (k : Int) := by have := HK.out.1; omega
              have mm3 : (k : Int) ≤ (qc : Int) := by omega
              clear hps hpd hcel hcel' hy hyp hyn h00 hpi hil hu1 HCC cB h24 hh hk hm0
              go_upto_region 30 with (fail)
              refine wp_region_U (fun W => W.cell? ⟨Bx, 2, none⟩ = some (.pointer (some ⟨Pb, 0, none⟩)) ∧ W.cell? ⟨hg, ho, none⟩ = some (.int .i64 h0)) [] (by kernel_rfl) ?_
              refine wpAnyU_take (i := 0) [1, 5, 6, 7, 8, 9, 10, 11, 12, 13, 14, 15] rfl (by as_aux_lemma => kernel_rfl) (by as_aux_lemma => kernel_rfl) (by as_aux_lemma => kernel_rfl) (by as_aux_lemma => kernel_rfl) (by as_aux_lemma => kernel_rfl) (by as_aux_lemma => kernel_rfl) (fun _ _ _ h => h) (Or.inl ⟨by rfl, (by intro W hSW; (try dsimp only at hSW); (try go_split_ands); go_simp <;> with_reducible rfl)⟩) hS0 ?_
              try simp only [Act.put, List.getElem_toArray, List.getElem_cons_succ, List.getElem_cons_zero, List.setIfInBounds_toArray, List.set_cons_zero, List.set_cons_succ]
              refine wpAnyU_take (i := 1) [5, 6, 7, 8, 9, 10, 11, 12, 13, 14, 15] rfl (by as_aux_lemma => kernel_rfl) (by as_aux_lemma => kernel_rfl) (by as_aux_lemma => kernel_rfl) (by as_aux_lemma => kernel_rfl) (by as_aux_lemma => kernel_rfl) (by as_aux_lemma => kernel_rfl) (fun _ _ _ h => h) (Or.inl ⟨by rfl, (by intro W hSW; (try dsimp only at hSW); (try go_split_ands); go_simp <;> with_reducible rfl)⟩) hS0 ?_
              try simp only [Act.put, List.getElem_toArray, List.getElem_cons_succ, List.getElem_cons_zero, List.setIfInBounds_toArray, List.set_cons_zero, List.set_cons_succ]
              refine wpAnyU_take (i := 2) [3, 4, 5, 6, 7, 8, 9, 10, 11, 12, 13, 14, 15] rfl (by as_aux_lemma => kernel_rfl) (by as_aux_lemma => kernel_rfl) (by as_aux_lemma => kernel_rfl) (by as_aux_lemma => kernel_rfl) (by as_aux_lemma => kernel_rfl) (by as_aux_lemma => kernel_rfl) (fun _ _ _ h => h) (Or.inl ⟨by rfl, (by intro W hSW; (try dsimp only at hSW); (try go_split_ands); go_simp <;> with_reducible rfl)⟩) hS0 ?_
              try simp only [Act.put, List.getElem_toArray, List.getElem_cons_succ, List.getElem_cons_zero, List.setIfInBounds_toArray, List.set_cons_zero, List.set_cons_succ]
              refine wpAnyU_take (i := 3) [4, 5, 6, 7, 8, 9, 10, 11, 12, 13, 14, 15] rfl (by as_aux_lemma => kernel_rfl) (by as_aux_lemma => kernel_rfl) (by as_aux_lemma => kernel_rfl) (by as_aux_lemma => kernel_rfl) (by as_aux_lemma => kernel_rfl) (by as_aux_lemma => kernel_rfl) (fun _ _ _ h => h) (Or.inl ⟨by rfl, (by intro W hSW; (try dsimp only at hSW); (try go_split_ands); go_simp <;> with_reducible rfl)⟩) hS0 ?_
              try simp only [Act.put, List.getElem_toArray, List.getElem_cons_succ, List.getElem_cons_zero, List.setIfInBounds_toArray, List.set_cons_zero, List.set_cons_succ]
              refine wpAnyU_take (i := 4) [5, 6, 7, 8, 9, 10, 11, 12, 13, 14, 15] rfl (by as_aux_lemma => kernel_rfl) (by as_aux_lemma => kernel_rfl) (by as_aux_lemma => kernel_rfl) (by as_aux_lemma => kernel_rfl) (by as_aux_lemma => kernel_rfl) (by as_aux_lemma => kernel_rfl) (fun _ _ _ h => h) (Or.inl ⟨by rfl, (by intro W hSW; (try dsimp only at hSW); (try go_split_ands); go_simp <;> with_reducible rfl)⟩) hS0 ?_
              try simp only [Act.put, List.getElem_toArray, List.getElem_cons_succ, List.getElem_cons_zero, List.setIfInBounds_toArray, List.set_cons_zero, List.set_cons_succ]
              refine wpAnyU_one (i := 5) (by kernel_rfl) rfl (fun K hK => ?_)
              go_simp
              go_at_call 8
              (with_reducible refine HU1.out.mono ?_)
              rintro e w7 ⟨rfl, hat7, hc7⟩
              have hmm7 := HPD.out.1.mem.turn HPD.out.1.pool hc7 (v' := { v' with fs := v'.fs.set i' ({ y'.1 with pins := y'.1.pins - 1 }, y'.2) }) rfl
              have hS7 : w7.cell? ⟨Bx, 2, none⟩ = some (.pointer (some ⟨Pb, 0, none⟩)) ∧ w7.cell? ⟨hg, ho, none⟩ = some (.int .i64 h0) := ⟨cell_of_row _ _ 2 _ _ _ hmm7.box, by
                obtain ⟨hg2, ho2, hcp2, e, -, hcel⟩ := hmm7.row.at_ 0 h0 rfl
                injection e with e1 e2 e3
                injection e1 with e1
                injection e1 with e1 e4
                rw [e1, e4]
                exact hcel⟩
              have hu2 := unpin_no w7 Pb D L _ _ _ hat7.rep h0 (.inr ⟨i', _, List.getElem?_set_self HPD.out.2.2.2.2.2.1, HPD.out.2.1, HPD.out.2.2.2.1, by show y'.1.pins - 1 = 0; have := HPD.out.2.2.1; omega⟩)
              have HU2 := Lib.hid hu2
              have H7 := Lib.hid (And.intro hat7 hmm7)
              clear hat7 hc7 hmm7 hu2 HU1
              refine hK.out _ _ (fun _ => hS7) (fun _ => ?_)
              clear hK K
              try simp only [Act.put, List.getElem_toArray, List.getElem_cons_succ, List.getElem_cons_zero, List.setIfInBounds_toArray, List.set_cons_zero, List.set_cons_succ]
              refine wpAnyU_take (i := 6) [7, 8, 9, 10, 11, 12, 13, 14, 15] rfl (by as_aux_lemma => kernel_rfl) (by as_aux_lemma => kernel_rfl) (by as_aux_lemma => kernel_rfl) (by as_aux_lemma => kernel_rfl) (by as_aux_lemma => kernel_rfl) (by as_aux_lemma => kernel_rfl) (fun _ _ _ h => h) (Or.inl ⟨by rfl, (by intro W hSW; (try dsimp only at hSW); (try go_split_ands); go_simp <;> with_reducible rfl)⟩) hS7 ?_
              try simp only [Act.put, List.getElem_toArray, List.getElem_cons_succ, List.getElem_cons_zero, List.setIfInBounds_toArray, List.set_cons_zero, List.set_cons_succ]
              refine wpAnyU_take (i := 7) [8, 9, 10, 11, 12, 13, 14, 15] rfl (by as_aux_lemma => kernel_rfl) (by as_aux_lemma => kernel_rfl) (by as_aux_lemma => kernel_rfl) (by as_aux_lemma => kernel_rfl) (by as_aux_lemma => kernel_rfl) (by as_aux_lemma => kernel_rfl) (fun _ _ _ h => h) (Or.inl ⟨by rfl, (by intro W hSW; (try dsimp only at hSW); (try go_split_ands); go_simp <;> with_reducible rfl)⟩) hS7 ?_
              try simp only [Act.put, List.getElem_toArray, List.getElem_cons_succ, List.getElem_cons_zero, List.setIfInBounds_toArray, List.set_cons_zero, List.set_cons_succ]
              refine wpAnyU_take (i := 8) [9, 13, 14, 15] rfl (by as_aux_lemma => kernel_rfl) (by as_aux_lemma => kernel_rfl) (by as_aux_lemma => kernel_rfl) (by as_aux_lemma => kernel_rfl) (by as_aux_lemma => kernel_rfl) (by as_aux_lemma => kernel_rfl) (fun _ _ _ h => h) (by first | exact Or.inl ⟨by rfl, (by intro W hSW; (try dsimp only at hSW); (try go_split_ands); go_simp <;> with_reducible rfl)⟩ | exact Or.inr ⟨by rfl, rfl⟩) hS7 ?_
              try simp only [Act.put, List.getElem_toArray, List.getElem_cons_succ, List.getElem_cons_zero, List.setIfInBounds_toArray, List.set_cons_zero, List.set_cons_succ]
              refine wpAnyU_take (i := 9) [13, 14, 15] rfl (by as_aux_lemma => kernel_rfl) (by as_aux_lemma => kernel_rfl) (by as_aux_lemma => kernel_rfl) (by as_aux_lemma => kernel_rfl) (by as_aux_lemma => kernel_rfl) (by as_aux_lemma => kernel_rfl) (fun _ _ _ h => h) (by first | exact Or.inl ⟨by rfl, (by intro W hSW; (try dsimp only at hSW); (try go_split_ands); go_simp <;> with_reducible rfl)⟩ | exact Or.inr ⟨by rfl, rfl⟩) hS7 ?_
              try simp only [Act.put, List.getElem_toArray, List.getElem_cons_succ, List.getElem_cons_zero, List.setIfInBounds_toArray, List.set_cons_zero, List.set_cons_succ]
              refine wpAnyU_take (i := 10) [11, 12, 13, 14, 15] rfl (by as_aux_lemma => kernel_rfl) (by as_aux_lemma => kernel_rfl) (by as_aux_lemma => kernel_rfl) (by as_aux_lemma => kernel_rfl) (by as_aux_lemma => kernel_rfl) (by as_aux_lemma => kernel_rfl) (fun _ _ _ h => h) (by first | exact Or.inl ⟨by rfl, (by intro W hSW; (try dsimp only at hSW); (try go_split_ands); go_simp <;> with_reducible rfl)⟩ | exact Or.inr ⟨by rfl, rfl⟩) hS7 ?_
              try simp only [Act.put, List.getElem_toArray, List.getElem_cons_succ, List.getElem_cons_zero, List.setIfInBounds_toArray, List.set_cons_zero, List.set_cons_succ]
              refine wpAnyU_take (i := 11) [12, 13, 14, 15] rfl (by as_aux_lemma => kernel_rfl) (by as_aux_lemma => kernel_rfl) (by as_aux_lemma => kernel_rfl) (by as_aux_lemma => kernel_rfl) (by as_aux_lemma => kernel_rfl) (by as_aux_lemma => kernel_rfl) (fun _ _ _ h => h) (by first | exact Or.inl ⟨by rfl, (by intro W hSW; (try dsimp only at hSW); (try go_split_ands); go_simp <;> with_reducible rfl)⟩ | exact Or.inr ⟨by rfl, rfl⟩) hS7 ?_
              try simp only [Act.put, List.getElem_toArray, List.getElem_cons_succ, List.getElem_cons_zero, List.setIfInBounds_toArray, List.set_cons_zero, List.set_cons_succ]
              refine wpAnyU_take (i := 12) [13, 14, 15] rfl (by as_aux_lemma => kernel_rfl) (by as_aux_lemma => kernel_rfl) (by as_aux_lemma => kernel_rfl) (by as_aux_lemma => kernel_rfl) (by as_aux_lemma => kernel_rfl) (by as_aux_lemma => kernel_rfl) (fun _ _ _ h => h) (by first | exact Or.inl ⟨by rfl, (by intro W hSW; (try dsimp only at hSW); (try go_split_ands); go_simp <;> with_reducible rfl)⟩ | exact Or.inr ⟨by rfl, rfl⟩) hS7 ?_
              try simp only [Act.put, List.getElem_toArray, List.getElem_cons_succ, List.getElem_cons_zero, List.setIfInBounds_toArray, List.set_cons_zero, List.set_cons_succ]
              refine wpAnyU_one (i := 13) (by kernel_rfl) rfl (fun K hK => ?_)
              go_simp
              go_at_call 8
              (with_reducible refine HU2.out.mono ?_)
              rintro e w8 ⟨rfl, rfl⟩
              refine hK.out _ _ (fun _ => hS7) (fun _ => ?_)
              clear hK K
              try simp only [Act.put, List.getElem_toArray, List.getElem_cons_succ, List.getElem_cons_zero, List.setIfInBounds_toArray, List.set_cons_zero, List.set_cons_succ]
              refine wpAnyU_take (i := 14) [15] rfl (by as_aux_lemma => kernel_rfl) (by as_aux_lemma => kernel_rfl) (by as_aux_lemma => kernel_rfl) (by as_aux_lemma => kernel_rfl) (by as_aux_lemma => kernel_rfl) (by as_aux_lemma => kernel_rfl) (fun _ _ _ h => h) (by first | exact Or.inl ⟨by rfl, (by intro W hSW; (try dsimp only at hSW); (try go_split_ands); go_simp <;> with_reducible rfl)⟩ | exact Or.inr ⟨by rfl, rfl⟩) hS7 ?_
              try simp only [Act.put, List.getElem_toArray, List.getElem_cons_succ, List.getElem_cons_zero, List.setIfInBounds_toArray, List.set_cons_zero, List.set_cons_succ]
              refine wpAnyU_take (i := 15) [] rfl (by as_aux_lemma => kernel_rfl) (by as_aux_lemma => kernel_rfl) (by as_aux_lemma => kernel_rfl) (by as_aux_lemma => kernel_rfl) (by as_aux_lemma => kernel_rfl) (by as_aux_lemma => kernel_rfl) (fun _ _ _ h => h) (Or.inl ⟨by rfl, (by intro W hSW; (try dsimp only at hSW); (try go_split_ands); go_simp <;> with_reducible rfl)⟩) hS7 ?_
              try simp only [Act.put, List.getElem_toArray, List.getElem_cons_succ, List.getElem_cons_zero, List.setIfInBounds_toArray, List.set_cons_zero, List.set_cons_succ]
              refine wpAnyU_done (by kernel_rfl) ?_ _
              have hfin := PS.cut H7.out.1 H7.out.2 HQ.out.1 (by omega) HPD.out.2.2.2.2.1 (k := k) (by have := HPD.out.2.2.2.2.2.2.1; simp at this; omega)
              have HFIN := Lib.hid hfin
              clear hS0 hS7 HU2 hfin
              go_wp2
              all_goals
                go_meet
                first
                | exact ⟨_, _, _, HFIN.out.1 (by assumption)⟩
                | exact ⟨_, _, _, HFIN.out.2 (by assumption)⟩
            | @new p' v' h24 hh hk hpl hmm hpi =>
              have n1 : (n : Int) < (24 : Int) := by omega
              obtain rfl : tb = false := by rw [← HIN.out]; exact decide_eq_false hh
              have hmk : ¬ (m : Int) = (k : Int) := by have := HQ.out.1; omega
              obtain ⟨q', w8, hr8, hpl8, hmm8, qa', qc', hq'⟩ := PS.push (ty := 22) hmm hpl (by have := HK.out.2; omega) (n : Int)
              rw [hq'] at hpl8 hmm8 hr8
              have hfin : PS w1 w8 D L Pb Bx (.slice (some qa') (held.length + 1) qc') Fd p' v' (held ++ [(n : Int)]) k := ⟨hpl8, hmm8, hpi, by rw [List.length_append]; simp; omega⟩
              have HF := Lib.hid hfin
              have HR8 := Lib.hid hr8
              clear hpl8 hmm8 hr8 hfin hpl hmm hpi h24 hh hk HCC hq'
              go_wp2_with (at_builtin; refine wpList_append_eq rfl rfl HR8.out rfl rfl ?_)
              go_meet
              exact ⟨_, _, _, HF.out⟩
          case rest =>
            obtain ⟨p6, v6, held6, hps6⟩ := hcut
            obtain ⟨w9, hw9⟩ : ∃ w9, w9 = wc := ⟨_, rfl⟩
            subst hw9
            obtain ⟨ra, rn, rc, e8, hrn, hrc⟩ := hps6.mem.row.form
            subst e8
            have cB : w9.cell? ⟨Bx, 2, none⟩ = some (.pointer (some ⟨Pb, 0, none⟩)) := cell_of_row _ _ 2 _ _ _ hps6.mem.box
            have hfr := frames_any w9 Pb D L _ p6 v6 hps6.pool.rep
            have HFR := Lib.hid hfr
            have H6 := Lib.hid (And.intro hps6 hrn)
            clear hfr hps6 hrn HR5 HCC HIN
            go_wp2_with fail
            refine HFR.out.mono ?_
            rintro e w7 ⟨fg, fc, rfl, hown, hb7⟩
            have hps7 := H6.out.1.more hb7
            obtain ⟨kn, hkn⟩ : ∃ kn, v6.fs.length = kn := ⟨_, rfl⟩
            rw [hkn] at hown ⊢
            have H7 := Lib.hid (And.intro hps7 (And.intro hown hkn))
            have hfc : ∀ (z : Nat) (x : Int), (pgsOf v6)[z]? = some x → w7.cell? ⟨fg, z, none⟩ = some (.int .i64 x) := fun z x hz => by
              have hkp : 0 < kn := by
                have h9 := (List.getElem?_eq_some_iff.1 hz).1
                unfold pgsOf at h9
                rw [List.length_map, hkn] at h9
                omega
              obtain ⟨g9, o9, c9, e, -, -, -, -, hcl⟩ := (RdV.of_own (F := NoF) hown (fun _ _ => noF _)).at_ hkp
              injection e with e1 e2 e3
              injection e1 with e1
              injection e1 with e1 e4
              subst e1
              have h8 := hcl z (.int .i64 x) (by unfold zv; rw [List.getElem?_map, hz]; rfl)
              rw [← e4, Nat.zero_add] at h8
              exact h8
            have HFC := Lib.hid hfc
            clear hps7 hown hkn hb7 HFR cB hfc
            go_wp2
            go_loopw [16, 17, 18] (fun jj _ _ wq => ∃ m : Nat, m ≤ rn ∧ jj = .int .i64 (m : Int) ∧ ∃ nq, wq = w7.drewN nq) (fun jj _ _ _ => rn - (intOf jj).toNat)
            case atStart => exact ⟨0, Nat.zero_le _, rfl, 0, rfl⟩
            case round =>
              obtain ⟨m', hm', rfl, nq0, rfl⟩ := hrel
              rcases Nat.lt_or_eq_of_le hm' with hml | rfl
              · obtain ⟨y, hy⟩ : ∃ y, held6[m']? = some y := ⟨_, List.getElem?_eq_getElem (by have := H6.out.2; omega)⟩
                obtain ⟨hg, ho, hcp, e, -, hcel⟩ := H7.out.1.mem.row.at_ m' y hy
                injection e with e1 e2 e3
                subst e1 e3
                clear e2
                have m1 : (m' : Int) < (rn : Int) := by omega
                have m0 : (0 : Int) ≤ (m' : Int) := by omega
                have HWM : Hid (wrap64 ((m' : Int) + 1) = (m' : Int) + 1) := by show _ = _; have h9 := H7.out.1.klen; have h8 := H6.out.2; have h7 := HK.out.2; unfold wrap64; omega
                have HM := Lib.hid (And.intro hy (And.intro hcel hml))
                clear hy hcel hml hm'
                go_wp2
                go_loopw [17, 18] (fun b hh wq => ∃ z : Nat, z ≤ kn ∧ b = .bool (decide (y ∈ (pgsOf v6).take z)) ∧ hh = .int .i64 (z : Int) ∧ ∃ nq, wq = w7.drewN nq) (fun _ hh _ => kn - (intOf hh).toNat)
                case atStart => exact ⟨0, Nat.zero_le _, by simp, rfl, nq0, rfl⟩
                case round =>
                  obtain ⟨z, hz, rfl, rfl, nq1, rfl⟩ := hrel
                  obtain ⟨tb, htb⟩ : ∃ tb, decide (y ∈ (pgsOf v6).take z) = tb := ⟨_, rfl⟩
                  rw [htb]
                  obtain ⟨wn, hwn⟩ : ∃ wn, w7.drewN nq1 = wn := ⟨_, rfl⟩
                  rw [hwn]
                  have cm : wn.cell? ⟨hg, ho + m', none⟩ = some (.int .i64 y) := by rw [← hwn]; exact HM.out.2.1
                  have cB : wn.cell? ⟨Bx, 2, none⟩ = some (.pointer (some ⟨Pb, 0, none⟩)) := by rw [← hwn]; exact cell_of_row _ _ 2 _ _ _ H7.out.1.mem.box
                  have hlen : (pgsOf v6).length = kn := by unfold pgsOf; rw [List.length_map]; exact H7.out.2.2
                  rcases Nat.lt_or_eq_of_le hz with hzl | rfl
                  · obtain ⟨x9, hx9⟩ : ∃ x9, (pgsOf v6)[z]? = some x9 := ⟨_, List.getElem?_eq_getElem (by rw [hlen]; exact hzl)⟩
                    have cz : wn.cell? ⟨fg, z, none⟩ = some (.int .i64 x9) := by rw [← hwn]; exact HFC.out z x9 hx9
                    have z1 : (z : Int) < (kn : Int) := by omega
                    have z0 : (0 : Int) ≤ (z : Int) := by omega
                    have HWZ : Hid (wrap64 ((z : Int) + 1) = (z : Int) + 1) := by show _ = _; have h9 := H7.out.1.pool.rep.big; have h8 := H7.out.2.2; unfold wrap64; omega
                    have htk : decide (y ∈ (pgsOf v6).take (z + 1)) = (tb || decide (y = x9)) := by
                      rw [List.take_add_one, hx9, ← htb]
                      simp only [List.mem_append, Option.toList_some, List.mem_singleton]
                      rw [Bool.decide_or]
                    have HT := Lib.hid (And.intro htk (And.intro hzl hwn))
                    clear htk hzl htb hx9 hz hlen hwn cB
                    cases tb with
                    | true =>
                      go_upto_region 41 with (fail)
                      go_quiet (fail)
                      go_wp2
                      go_roundw
                      case rel => exact ⟨z + 1, by have := HT.out.2.1; omega, by rw [HT.out.1]; rfl, by rw [HWZ.out]; rfl, _, by rw [← HT.out.2.2]; exact World.drewN_drewN _ _ _⟩
                      case measure => have := HT.out.2.1; rw [HWZ.out]; simp [intOf]; omega
                    | false =>
                      by_cases hyx : x9 = y
                      · subst hyx
                        go_upto_region 41 with (fail)
                        go_quiet (fail)
                        go_wp2
                        go_roundw
                        case rel => exact ⟨z + 1, by have := HT.out.2.1; omega, by rw [HT.out.1]; simp, by rw [HWZ.out]; rfl, _, by rw [← HT.out.2.2]; exact World.drewN_drewN _ _ _⟩
                        case measure => have := HT.out.2.1; rw [HWZ.out]; simp [intOf]; omega
                      · have HYX := Lib.hid (show ¬ y = x9 from fun e => hyx e.symm)
                        go_upto_region 41 with (fail)
                        go_quiet (fail)
                        go_wp2
                        go_roundw
                        case rel => exact ⟨z + 1, by have := HT.out.2.1; omega, by rw [HT.out.1]; simp [HYX.out, hyx], by rw [HWZ.out]; rfl, _, by rw [← HT.out.2.2]; exact World.drewN_drewN _ _ _⟩
                        case measure => have := HT.out.2.1; rw [HWZ.out]; simp [intOf]; omega
                  · have hyh : y ∈ held6 := List.mem_of_getElem? HM.out.1
                    obtain ⟨i9, x9, hx9, hp9, hpn9, -, -⟩ := H7.out.1.pin.at_ hyh
                    have hyt : tb = true := by
                      rw [← htb, List.take_of_length_le (by omega)]
                      refine decide_eq_true ?_
                      unfold pgsOf
                      exact List.mem_map.2 ⟨x9, List.mem_of_getElem? hx9, hp9⟩
                    subst hyt
                    have hpc : ∀ nn, Calls Try.prog 10 #[.pointer (some ⟨Pb, 0, none⟩), .int .i64 y] (wn.drewN nn) fun e w' => e = .returned (.int .i64 1) ∧ wn.drewN nn = w' := fun nn => by
                      have hpsn := (H7.out.1.more (below_drewN (Below.refl _ _) nq1))
                      rw [hwn] at hpsn
                      have h9 := pins_yes (wn.drewN nn) Pb D L _ p6 v6 (hpsn.more (below_drewN (Below.refl _ _) nn)).pool.rep y i9 x9 hx9 hp9 ((H7.out.1.pin.rng y hyh).1)
                      rw [hpn9] at h9
                      exact h9
                    have HPC := Lib.hid hpc
                    have HWN := Lib.hid hwn
                    clear hyh hx9 hp9 hpn9 hpc hwn htb hz hlen
                    go_upto_region 42 with (fail)
                    go_quiet ((go_at_call 10; exact quiet_eq (HPC.out _)))
                    go_wp2
                    go_roundw
                    case rel => exact ⟨m' + 1, by have := HM.out.2.2; omega, by rw [HWM.out]; rfl, _, by rw [← HWN.out]; exact World.drewN_drewN _ _ _⟩
                    case measure => have := HM.out.2.2; rw [HWM.out]; simp [intOf]; omega
              · have HWJ1 : Hid (wrap64 ((j : Int) + 1) = (j : Int) + 1) := by show _ = _; have h9 := HV.out.2.2; have h8 := HV.out.2.1; unfold wrap64; omega
                have hpsn := (H7.out.1.more (below_drewN (Below.refl _ _) nq0))
                have HPN := Lib.hid hpsn
                clear hpsn hm'
                go_wp2
                go_roundw
                case rel => exact ⟨j + 1, p6, v6, held6, by have := HQ.out.2.2; omega, by rw [HWJ1.out]; rfl, HPN.out⟩
                case measure => have := HQ.out.2.2; rw [HWJ1.out]; simp [intOf]; omega
    · go_wp2
      go_ret
      exact ⟨rfl, HB1.out.trans (hps.mem.below.mono HB1.out.size)⟩
end Mun
