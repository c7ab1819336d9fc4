import Derived.Test.YtimlibdojkfilaaSumNumbersV
set_option maxRecDepth 100000
set_option linter.unusedVariables false
namespace Mun
open Go Go.RowKit
open Go.Proofs

theorem refput_pos (w : World) (n : Nat) (sz : Int) (K : Nat) (hK : sz = K) (hn : n < 18446744073709551616) (h8 : K ≤ 8) (hpos : 0 < K) :
    Calls Try.prog 12 #[.int .u64 n, .int .i64 sz] w fun e w' => ∃ g c, e = .returned (.slice (some ⟨g, 0, none⟩) K c) ∧ w.heap.size ≤ g ∧
      (∀ k (hk : k < K), w'.cell? ⟨g, k, none⟩ = some (.int .u8 ((UInt8.ofNat (n / 256 ^ k)).toNat : Int))) ∧ Below w.heap.size w w' := by
  refine (refput_any w n sz K hK hn h8).mono fun e w' ⟨v, he, ho, hb⟩ => ?_
  have hl := leBytes_length K n
  obtain ⟨g, c, hv, h1, h2, h3, h4, h5, h6⟩ := ho.at_ (by omega)
  subst hv
  rw [hl] at he
  refine ⟨g, c, he, h1, fun k hk => ?_, hb⟩
  rw [h5 k (by omega)]
  congr 2
  have := leBytes_getElem? K n k hk
  rw [List.getElem?_eq_getElem (by omega)] at this
  injection this with this
  rw [this]

set_option maxHeartbeats 2000000 in
theorem numbers_ok (w : World) (v : Value) (l : List UInt8) (n A K : Nat) (hv : RdB NoF w v l) (hlen : l.length ≤ 140737488351232) (hn64 : n < 18446744073709551616)
    (hn : liesB l.length A K = true) (hb : K < 8 → n < 256 ^ K) :
    Calls Try.prog 4 #[v, .int .i64 A, .int .i64 K, .int .u64 n] w fun e w' => e = .returned (.bool true) ∧ Below w.heap.size w w' := by
  have HN := Lib.hid hn
  obtain ⟨hs, h0, h1, h2⟩ := liesB_true hn
  obtain ⟨a, c, rfl, hlc, hcm⟩ := hv.form
  have hm : (l.length : Int) ≤ 9223372036854775807 := by omega
  have hAK : A + K ≤ l.length := by omega
  have HB := Lib.hid hb
  have hK : (K = 1 ∧ (n : Int) / 256 ≤ 0) ∨ (K = 2 ∧ (n : Int) / 65536 ≤ 0) ∨ (K = 4 ∧ (n : Int) / 4294967296 ≤ 0) ∨ K = 8 := by
    have h3 : K = 1 ∨ K = 2 ∨ K = 4 ∨ K = 8 := by omega
    rcases h3 with rfl | rfl | rfl | rfl
    · exact .inl ⟨rfl, by have := hb (by omega); omega⟩
    · exact .inr (.inl ⟨rfl, by have := hb (by omega); omega⟩)
    · exact .inr (.inr (.inl ⟨rfl, by have := hb (by omega); omega⟩))
    · exact .inr (.inr (.inr rfl))
  obtain ⟨q, hq⟩ : ∃ q : Nat, leNat ((l.drop A).take K) = q := ⟨_, rfl⟩
  have HQ : Hid (((leNat ((l.drop (A : Int).toNat).take (K : Int).toNat) : Nat) : Int) = (q : Int)) := by
    show _ = _
    rw [Int.toNat_natCast, Int.toNat_natCast, hq]
  have HQ2 : Hid (((leNat ((l.drop A).take K) : Nat) : Int) = (q : Int)) := by show _ = _; rw [hq]
  have HN64 := Lib.hid hn64
  clear hn hs hb hq hn64
  obtain ⟨X, hXe⟩ : ∃ X, putAt l A (leBytes K n) = X := ⟨_, rfl⟩
  have HXE := Lib.hid hXe
  have hX : RdB NoF (w.alloc (bobj X)) (.slice (some ⟨w.heap.size, 0, none⟩) l.length l.length) X := by
    have hl : X.length = l.length := by rw [← hXe]; exact putAt_length _ _ _ (by rw [leBytes_length]; exact hAK)
    have := bobj_rd (F := NoF) w X _ rfl (by rw [hl]; unfold maxLen; omega) (noF _)
    rw [hl] at this
    exact this
  clear hXe
  have HK0 : ∃ K0, Hid (K0 = K) := ⟨K, rfl⟩
  obtain ⟨K0, HK0⟩ := HK0
  have Z1 : Hid ((1 : Int) = ((1 : Nat) : Int)) := rfl
  have Z2 : Hid ((2 : Int) = ((2 : Nat) : Int)) := rfl
  have Z4 : Hid ((4 : Int) = ((4 : Nat) : Int)) := rfl
  have Z8 : Hid ((8 : Int) = ((8 : Nat) : Int)) := rfl
  have W1 : Hid ((1 : Nat) ≤ 8) := by show _ ≤ _; omega
  have W2 : Hid ((2 : Nat) ≤ 8) := by show _ ≤ _; omega
  have W4 : Hid ((4 : Nat) ≤ 8) := by show _ ≤ _; omega
  have W8 : Hid ((8 : Nat) ≤ 8) := by show _ ≤ _; omega
  have V1 : Hid (0 < (1 : Nat)) := by show _ < _; omega
  have V2 : Hid (0 < (2 : Nat)) := by show _ < _; omega
  have V4 : Hid (0 < (4 : Nat)) := by show _ < _; omega
  have V8 : Hid (0 < (8 : Nat)) := by show _ < _; omega
  rcases hK with ⟨rfl, hge⟩ | ⟨rfl, hge⟩ | ⟨rfl, hge⟩ | rfl
  all_goals
    go_enter Try.func4, Try.ntmps4
    go_wp2_with (first
      | (go_at_call 9; refine (put_ok _ _ l _ _ n A _ X rfl rfl HXE.out hv (by omega) HN.out HB.out).mono ?_; rintro e w' ⟨rfl, rfl⟩)
      | (go_at_call 10; refine (get_yes _ _ l _ _ q HQ.out (hv.below (below_alloc1 _ _)) HN.out).mono ?_; rintro e w' ⟨rfl, rfl⟩)
      | (go_at_call 11; (with_reducible refine (refget_any _ _ l _ 1 A 1 q rfl Z1.out HQ2.out (by assumption) (by omega) (by omega)).mono ?_); rintro e w' ⟨rfl, rfl⟩)
      | (go_at_call 11; (with_reducible refine (refget_any _ _ l _ 2 A 2 q rfl Z2.out HQ2.out (by assumption) (by omega) (by omega)).mono ?_); rintro e w' ⟨rfl, rfl⟩)
      | (go_at_call 11; (with_reducible refine (refget_any _ _ l _ 4 A 4 q rfl Z4.out HQ2.out (by assumption) (by omega) (by omega)).mono ?_); rintro e w' ⟨rfl, rfl⟩)
      | (go_at_call 11; (with_reducible refine (refget_any _ _ l _ 8 A 8 q rfl Z8.out HQ2.out (by assumption) (by omega) (by omega)).mono ?_); rintro e w' ⟨rfl, rfl⟩)
      | (go_at_call 7; refine (awake1 _).mono ?_; rintro e w2 ⟨rfl, hbw⟩
         have hv2 := (hv.below (below_alloc1 _ _)).below hbw
         have hX2 := hX.below hbw
         have hB2 : Below w.heap.size w w2 := (below_alloc1 w _).trans (hbw.mono (by simp))
         obtain ⟨g, cap, w3, hr, ho, hB3, hgw⟩ := append_nil_bytes (ty := 22) hv2 (by omega) (by omega)
         have HO := Lib.hid ho
         have HR := Lib.hid hr
         clear ho hr)
      | (at_builtin; refine wpList_append_eq rfl rfl HR.out rfl rfl ?_))
    clear HR hX hv
    go_loopw [14] (fun i wr => ∃ k : Nat, k ≤ K0 ∧ i = .int .i64 (k : Int) ∧ OwnB wr w2.heap.size 5 (.slice (some ⟨g, 0, none⟩) l.length cap) (putAt l A (leBytes k n)) ∧ Below w2.heap.size w2 wr) (fun i _ => K0 - (intOf i).toNat)
    case atStart => exact ⟨0, Nat.zero_le _, rfl, by rw [leBytes, putAt_nil]; exact HO.out, hB3⟩
    case round =>
      obtain ⟨k, hk, rfl, ho, hB⟩ := hrel
      have hpl := putAt_length l A (leBytes k n) (by rw [leBytes_length]; have := HK0.out; omega)
      have hK0 := HK0.out
      subst hK0
      rcases Nat.lt_or_eq_of_le hk with hlt | heq
      · have HP : Hid ((putAt l A (leBytes k n)).set (A + k) (UInt8.ofNat (n / 256 ^ k)) = putAt l A (leBytes (k + 1) n)) := by
          have := putAt_snoc l A (leBytes k n) (UInt8.ofNat (n / 256 ^ k)) (by rw [leBytes_length]; omega)
          rw [leBytes_length] at this
          rw [leBytes_snoc]
          exact this
        have Hpl := Lib.hid hpl
        clear hpl
        go_wp2_with (first
          | (go_at_call 12; (with_reducible refine (refput_pos _ n 1 1 Z1.out HN64.out W1.out V1.out).mono ?_); rintro e w4 ⟨g2, c2, rfl, hg2, hcell, hB4⟩
             have hck := hcell k (by omega)
             have ho4 := ho.below hB4
             obtain ⟨b4, hc4⟩ := ho4.cellEx (A + k) (by rw [Hpl.out]; omega)
             have hf4 := ho4.frozenAt (by rw [Hpl.out]; omega) (A + k)
             have HO4 := Lib.hid ho4
             clear hcell ho4)
          | (go_at_call 12; (with_reducible refine (refput_pos _ n 2 2 Z2.out HN64.out W2.out V2.out).mono ?_); rintro e w4 ⟨g2, c2, rfl, hg2, hcell, hB4⟩
             have hck := hcell k (by omega)
             have ho4 := ho.below hB4
             obtain ⟨b4, hc4⟩ := ho4.cellEx (A + k) (by rw [Hpl.out]; omega)
             have hf4 := ho4.frozenAt (by rw [Hpl.out]; omega) (A + k)
             have HO4 := Lib.hid ho4
             clear hcell ho4)
          | (go_at_call 12; (with_reducible refine (refput_pos _ n 4 4 Z4.out HN64.out W4.out V4.out).mono ?_); rintro e w4 ⟨g2, c2, rfl, hg2, hcell, hB4⟩
             have hck := hcell k (by omega)
             have ho4 := ho.below hB4
             obtain ⟨b4, hc4⟩ := ho4.cellEx (A + k) (by rw [Hpl.out]; omega)
             have hf4 := ho4.frozenAt (by rw [Hpl.out]; omega) (A + k)
             have HO4 := Lib.hid ho4
             clear hcell ho4)
          | (go_at_call 12; (with_reducible refine (refput_pos _ n 8 8 Z8.out HN64.out W8.out V8.out).mono ?_); rintro e w4 ⟨g2, c2, rfl, hg2, hcell, hB4⟩
             have hck := hcell k (by omega)
             have ho4 := ho.below hB4
             obtain ⟨b4, hc4⟩ := ho4.cellEx (A + k) (by rw [Hpl.out]; omega)
             have hf4 := ho4.frozenAt (by rw [Hpl.out]; omega) (A + k)
             have HO4 := Lib.hid ho4
             clear hcell ho4))
        go_roundw
        case rel => exact ⟨k + 1, by omega, by go_num, by rw [← HP.out]; exact HO4.out.set rfl (by rw [Hpl.out]; omega) _ _ rfl, (hB.trans (hB4.mono hB.size)).setCell hgw _⟩
        case measure => simp [intOf]; omega
      · have hge := Nat.le_of_eq heq.symm
        have HEQ := Lib.hid heq
        clear heq
        have hXr : RdB NoF wr (.slice (some ⟨w.heap.size, 0, none⟩) l.length l.length) X := by
          refine (RdV.mono hX2 (F' := fun k => w2.heap.size ≤ k) (fun k hk h => by omega)).keep (w' := wr) (fun k hk hn => hB.block k hk) (fun k hk h => h.elim)
        have hwr := ho.rd (F := NoF) (fun _ _ => noF _)
        rw [HEQ.out, HXE.out] at hwr
        have hs1 := str_bytes hXr
        have hs2 := str_bytes hwr
        go_wp2
        go_ret
        exact ⟨rfl, hB2.trans (hB.mono hB2.size)⟩

end Mun
