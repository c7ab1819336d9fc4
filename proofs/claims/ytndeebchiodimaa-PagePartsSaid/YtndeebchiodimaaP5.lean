/- Contract of anew: a page's cells laid out anew. -/
import Derived.Test.YtndeebchiodimaaP4
import Derived.Test.YtndeebchiodimaaPageN
set_option maxRecDepth 100000
set_option linter.unusedVariables false
set_option linter.unusedSimpArgs false
namespace Mun
open Go Go.RowKit
open Go.Proofs

theorem clear_any {ty : TypeId} (W : World) (g A n c : Nat) (p : List UInt8) (hg : PgAt W g p) (hA : A + n ≤ 512) :
    ∃ W', (Builtin.clear_ #[22] ty #[.slice (some ⟨g, A, none⟩) n c]).run Try.prog W = .ok (.tuple #[]) W' ∧ PgAt W' g (putAt p A (zer n)) ∧ Chg (G1 g) (G1 g) W W' := by
  rcases Nat.eq_zero_or_pos n with rfl | hn
  · refine ⟨W, ?_, ?_, Chg.refl _ _⟩
    · simp [Builtin.clear_, run_underlying Try.underlying22, zero_u8]
    · rw [show zer 0 = [] from rfl, putAt_nil]; exact hg
  · exact clear_mid W g A n c p hg hn hA


theorem anewS_length (p : PBytes) (hp : p.length = 512) (n : Nat) (hn : 26 + 4 * n ≤ 512) (hs : szs p n ≤ 512) (hc : ∀ i, i < n → sFrom p i + sSize p i ≤ 512) : ∀ k, k ≤ n → (anewS p k).length = 512
  | 0, _ => hp
  | k + 1, hk => by
    have ih := anewS_length p hp n hn hs hc k (by omega)
    have h1 : szs p (k + 1) ≤ szs p n := szs_mono p hk
    have h2 : szs p (k + 1) = szs p k + sSize p k := rfl
    have h3 := hc k (by omega)
    have hl : (cellP p k).length = sSize p k := by unfold cellP; rw [List.length_take, List.length_drop]; omega
    have h4 : (putAt (anewS p k) (512 - szs p (k + 1)) (cellP p k)).length = 512 := by rw [putAt_length _ _ _ (by rw [hl]; omega), ih]
    unfold anewS
    rw [ss_length _ _ _ _ (by omega), h4]

/-- a round of anew stands so -/
structure AnewR (w1 wr : World) (b g b2 : Nat) (vold : Value) (p : PBytes) (k : Nat) : Prop where
  bx : Bx w1 wr b g (anewS p k)
  old : wr.cell? ⟨b2, 0, none⟩ = some vold
  rd : RdB (G1 g) wr vold p

set_option maxHeartbeats 2000000 in
theorem anew_any (w : World) (g : Nat) (p : List UInt8) (hg : PgAt w g p) (hn : 26 + 4 * cnt p + szs p (cnt p) ≤ 512) (hc : ∀ i, i < cnt p → sFrom p i + sSize p i ≤ 512) :
    Calls Try.prog 44 #[.agg #[PV g]] w fun e w' => e = .returned (.tuple #[]) ∧ PgAt w' g (anewP p) ∧ Chg (G1 g) (G1 g) w w' := by
  have hp := hg.2
  have hb := Bx.start hg
  obtain ⟨w1, hw1⟩ : ∃ w1, w.alloc (.cells #[.slice (some ⟨g, 0, none⟩) 512 512] 65) = w1 := ⟨_, rfl⟩
  rw [hw1] at hb
  have hx1 := hb.box
  obtain ⟨g2, cap, w2, hr2, ho2, hb2, hg2⟩ := append_nil_bytes (F := fun _ => False) (ty := 22) (w := w1) (s := PV g) (hb.rd (fun h => h)) (by omega) (by omega)
  rw [hp] at hr2 ho2
  have hx2 := (hb.below hb2)
  have hgw := hg.lt
  have hg1 : g < w1.heap.size := hb.pg.lt
  have hold : RdB (G1 g) w2 (.slice (some ⟨g2, 0, none⟩) 512 cap) p := OwnB.rd ho2 (fun k hk hkg => by rw [show k = g from hkg] at hk; omega)
  have hb3 : Bx w (w2.alloc (.cells #[.slice (some ⟨g2, 0, none⟩) 512 cap] 65)) w.heap.size g p := hx2.below ((Below.refl _ _).alloc (Nat.le_refl _) _)
  have hold3 : RdB (G1 g) (w2.alloc (.cells #[.slice (some ⟨g2, 0, none⟩) 512 cap] 65)) (.slice (some ⟨g2, 0, none⟩) 512 cap) p := hold.alloc _
  have hcell3 : (w2.alloc (.cells #[.slice (some ⟨g2, 0, none⟩) 512 cap] 65)).cell? ⟨w2.heap.size, 0, none⟩ = some (.slice (some ⟨g2, 0, none⟩) 512 cap) := cell_of_row _ w2.heap.size 0 _ _ _ (heap_alloc_new w2 _)
  have hne2 : w2.heap.size ≠ g := by have := hx2.pg.lt; omega
  obtain ⟨w3, hw3⟩ : ∃ w3, w2.alloc (.cells #[.slice (some ⟨g2, 0, none⟩) 512 cap] 65) = w3 := ⟨_, rfl⟩
  rw [hw3] at hb3 hold3 hcell3
  have hcn := count_any w3 (PV g) p (hb3.rd (F := fun _ => False) (fun h => h)) hp
  have hx3 := hb3.box
  have HX := Lib.hid (And.intro hb3 (And.intro hold3 (And.intro hcell3 hne2)))
  have HCN := Lib.hid hcn
  have HR2 := Lib.hid hr2
  have HC := Lib.hid hc
  have HP := Lib.hid hp
  have HAP : Hid (anewP p = pt (putAt (anewS p (cnt p)) (26 + 4 * cnt p) (zer (512 - szs p (cnt p) - (26 + 4 * cnt p)))) 16 2 (512 - szs p (cnt p))) := by show _ = _; rfl
  obtain ⟨n, hnn⟩ : ∃ n, cnt p = n := ⟨_, rfl⟩
  rw [hnn] at hn HAP
  have HN := Lib.hid (And.intro hn hnn)
  have hni : (n : Int) ≤ 121 := by omega
  clear hb ho2 hb2 hg2 hx2 hgw hg1 hold hb3 hold3 hcell3 hne2 hcn hr2 hc hp hg hn hnn
  go_enter Try.func44, Try.ntmps44
  go_wp2_with ((at_builtin; refine wpList_append_eq rfl rfl HR2.out rfl rfl ?_; clear HR2))
  go_wp2_with fail
  refine HCN.out.mono ?_
  rintro e w4 ⟨rfl, hb4⟩
  rw [HN.out.2]
  have hx4 := HX.out
  have hst : AnewR w w4 w.heap.size g w2.heap.size (.slice (some ⟨g2, 0, none⟩) 512 cap) p 0 :=
    ⟨hx4.1.below hb4, by have := hb4.cell (p := ⟨w2.heap.size, 0, none⟩) (by have := cell_block hx4.2.2.1; obtain ⟨_, _, _, _, hh, _⟩ := this; exact (Array.getElem?_eq_some_iff.1 hh).1); rw [this]; exact hx4.2.2.1, RdB.below hx4.2.1 hb4⟩
  have HST := Lib.hid hst
  clear hb4 hx4 hst hx3 hx1 hw3
  go_wp2
  go_loopw [3, 14] (fun lo i wr => ∃ k : Nat, k ≤ n ∧ i = .int .i64 (k : Int) ∧ lo = .int .i64 ((512 - szs p k : Nat) : Int) ∧ AnewR w wr w.heap.size g w2.heap.size (.slice (some ⟨g2, 0, none⟩) 512 cap) p k) (fun _ i _ => n - (intOf i).toNat)
  case atStart => exact ⟨0, by omega, rfl, rfl, HST.out⟩
  case round =>
    obtain ⟨k, hk, rfl, rfl, hR⟩ := hrel
    rcases Nat.lt_or_eq_of_le hk with hlt | heq
    · have hN := HN.out.1
      have hs1 : szs p (k + 1) ≤ szs p n := szs_mono p hlt
      have hs2 : szs p (k + 1) = szs p k + sSize p k := rfl
      have hck := HC.out k (by rw [HN.out.2]; exact hlt)
      have hcl : (cellP p k).length = sSize p k := by have := HP.out; unfold cellP; rw [List.length_take, List.length_drop]; omega
      obtain ⟨l, hl⟩ : ∃ l, 512 - szs p k = l := ⟨_, rfl⟩
      obtain ⟨d, hd⟩ : ∃ d, 512 - szs p (k + 1) = d := ⟨_, rfl⟩
      have HD : Hid (l - sSize p k = d ∧ sSize p k ≤ l ∧ l ≤ 512 ∧ 26 + 4 * n ≤ d ∧ k < n ∧ (cellP p k).length = sSize p k) := by show _ ∧ _; omega
      have HDD := Lib.hid hd
      have hcell := cell_any wr _ p k hR.rd HP.out (by omega) hck
      rw [hl]
      have hki : (k : Int) < (n : Int) := by omega
      have hxr := hR.bx.box
      have hor := hR.old
      have HRR := Lib.hid hR
      have HCL := Lib.hid hcell
      clear hR hlt hk hN hs1 hs2 hck hl hd hcell hcl
      go_wp2_with fail
      refine HCL.out.mono ?_
      rintro e w5 ⟨v', rfl, hv5, hb5⟩
      have hbx5 := HRR.out.bx.below hb5
      have hold5 : w5.cell? ⟨w2.heap.size, 0, none⟩ = some (.slice (some ⟨g2, 0, none⟩) 512 cap) := box_chg hor (Chg.of_below hb5 (fun _ => False)) (fun h => h)
      have hrd5 := RdB.below HRR.out.rd hb5
      have hv5' := RdB.below hv5 hb5
      obtain ⟨a, m, cp, rfl, HM, hlc, hcm⟩ := hv5'.formN
      have hD := HD.out
      have hm := HM.out
      have hq : (l : Int) - (m : Int) = (d : Int) := by omega
      have hdi : (d : Int) ≤ 512 := by omega
      have hml : (m : Int) ≤ (l : Int) := by omega
      have hli : (l : Int) ≤ 512 := by omega
      obtain ⟨a3, hsl, ha3⟩ := slice_from g d (d : Int) rfl (by omega)
      obtain ⟨W6, r6, hcr, hp6, hc6⟩ := copy_mid (ty := 3) w5 g d (512 - d) (512 - d) _ (cellP p k) _ hbx5.pg hv5' (by omega) (by omega) (.slice a3 (512 - d) (512 - d))
        ⟨fun hp => by rw [ha3 (by omega)], _, rfl⟩
      have hbx6 := hbx5.step hp6 hc6
      have hne2 := HX.out.2.2.2
      have hold6 := box_chg hold5 hc6 (fun h => hne2 h)
      have hrd6 := RdB.chg hrd5 hc6
      have hx5 := hbx5.box
      have hx6 := hbx6.box
      have HB6 := Lib.hid (And.intro hbx6 (And.intro hold6 hrd6))
      have HMM : Hid (m = sSize p k ∧ d ≤ 512 ∧ m ≤ 512) := by show _ ∧ _; omega
      clear hbx5 hrd5 hv5 hv5' hD hm ha3 hp6 hc6 hbx6 hne2 hrd6 hb5 HM hlc hcm hxr hor
      go_wp2_with fail
      refine (setSlot_any _ g _ _ _ _ k d m rfl rfl rfl HB6.out.1.pg (by have := HD.out; omega) (by have := HMM.out; omega) (by have := HMM.out; omega)).mono ?_
      rintro e w7 ⟨rfl, hp7, hc7⟩
      have HR7 : Hid (AnewR w w7 w.heap.size g w2.heap.size (.slice (some ⟨g2, 0, none⟩) 512 cap) p (k + 1)) := by
        refine ⟨?_, box_chg hold6 hc7 (fun h => HX.out.2.2.2 h), RdB.chg HB6.out.2.2 hc7⟩
        have hh := HB6.out.1.step hp7 hc7
        rw [HMM.out.1] at hh
        unfold anewS
        rw [HDD.out]
        exact hh
      clear hp7 hc7 hx5 hx6 hold5 hold6 hcr hsl
      go_wp2
      go_roundw
      case rel => exact ⟨k + 1, by have := HD.out; omega, by go_num, by rw [HDD.out], HR7.out⟩
      case measure => have := HD.out; simp [intOf]; omega
    · subst heq
      obtain ⟨l, hl⟩ : ∃ l, 512 - szs p k = l := ⟨_, rfl⟩
      have hN := HN.out.1
      have HL : Hid (512 - szs p k = l ∧ 26 + 4 * k ≤ l ∧ l ≤ 512) := by show _ ∧ _; omega
      rw [hl]
      have hslo := slice_own g (26 + 4 * k) l (26 + 4 * (k : Int)) (l : Int) (by push_cast; rfl) rfl (by omega) (by omega) (by omega)
      obtain ⟨W6, hcr, hp6, hc6⟩ := clear_any (ty := 0) wr g (26 + 4 * k) (l - (26 + 4 * k)) (512 - (26 + 4 * k)) _ hR.bx.pg (by omega)
      have hbx6 := hR.bx.step hp6 hc6
      have hxr := hR.bx.box
      have hx6 := hbx6.box
      have HB6 := Lib.hid hbx6
      have hli : (l : Int) ≤ 512 := by omega
      have h26 : 26 + 4 * (k : Int) ≤ (l : Int) := by omega
      clear hR hk hN hl hp6 hc6 hbx6
      go_wp2_with fail
      refine (put_any _ g _ 16 2 16 2 l rfl rfl HB6.out.pg (by decide) (by decide) (by decide)).mono ?_
      rintro e w7 ⟨rfl, hp7, hc7⟩
      have HB7 := Lib.hid (HB6.out.step hp7 hc7)
      clear hp7 hc7 hx6 hcr hslo hxr
      go_wp2
      go_end0
      refine ⟨rfl, ?_, HB7.out.chg⟩
      rw [HAP.out, HL.out.1]
      exact HB7.out.pg
end Mun
