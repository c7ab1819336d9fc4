import Derived.Test.YtimlibdojkfilaaSumV
import Derived.Test.YtimlibdojkfilaaLaw
set_option maxRecDepth 100000
set_option linter.unusedVariables false
namespace Mun
open Go Go.RowKit
open Go.Proofs

theorem refget_step (a : Nat) (b : UInt8) (k : Nat) (hk : k < 8) (ha : a < 256 ^ k) :
    bits .or .u64 (IntKind.u64.wrap ((a : Int) * 256)) (b.toNat : Int) = ((b.toNat + 256 * a : Nat) : Int) := by
  have h1 : 256 ^ k ≤ 256 ^ 7 := Nat.pow_le_pow_right (by omega) (by omega)
  have hb := b.toNat_lt
  have e : ((a : Int) * 256) = ((a * 2 ^ 8 : Nat) : Int) := by omega
  rw [e, wrap_u64_nat _ (by omega), u64_or_nat _ _ (by omega) (by omega), Nat.or_comm, or_shift _ _ 8 (by omega)]
  congr 1
  omega

theorem leNat_drop (l : List UInt8) (j : Nat) (h : j < l.length) : leNat (l.drop j) = l[j].toNat + 256 * leNat (l.drop (j + 1)) := by
  rw [List.drop_eq_getElem_cons h]; rfl

set_option maxHeartbeats 400000 in
theorem refget_any {F : Foot} (w : World) (v : Value) (l : List UInt8) (at_ sz : Int) (A K : Nat) (z : Int) (hA : at_ = A) (hK : sz = K) (hz : ((leNat ((l.drop A).take K) : Nat) : Int) = z) (hv : RdB F w v l) (hl : A + K ≤ l.length) (h8 : K ≤ 8) :
    Calls Try.prog 11 #[v, .int .i64 at_, .int .i64 sz] w fun e w' => e = .returned (.int .u64 z) ∧ w = w' := by
  subst hz
  subst hA
  subst hK
  obtain ⟨a, c, rfl, hlc, hcm⟩ := hv.form
  have hm : (l.length : Int) ≤ 9223372036854775807 := by unfold maxLen at hcm; omega
  have hlen : ((l.drop A).take K).length = K := by rw [List.length_take, List.length_drop]; omega
  have HL := Lib.hid hlen
  clear hlen
  go_enter Try.func11, Try.ntmps11
  go_wp2
  go_loop [7, 8] (fun n i => ∃ j : Nat, j ≤ K ∧ i = .int .i64 ((j : Int) - 1) ∧ n = .int .u64 (leNat (((l.drop A).take K).drop j))) (fun _ i => (intOf i + 1).toNat)
  case atStart => exact ⟨K, Nat.le_refl _, rfl, by rw [List.drop_of_length_le (by rw [HL.out]; exact Nat.le_refl _)]; rfl⟩
  case round =>
    obtain ⟨j, hj, rfl, rfl⟩ := hrel
    by_cases h0 : j = 0
    · subst h0
      go_wp2
      go_ret
      exact ⟨rfl, rfl⟩
    · obtain ⟨i, rfl⟩ : ∃ i, j = i + 1 := ⟨j - 1, by omega⟩
      obtain ⟨g, off, c', hv', h1, h2, h3, h4, h5⟩ := hv.at_ (by omega)
      injection hv' with e1 e2 e3
      subst e1 e3
      have hck := h5 (A + i) (by omega)
      have hb : (l[A + i].toNat : Int) < 256 := by have := l[A + i].toNat_lt; omega
      have hs : Hid (leNat (((l.drop A).take K).drop i) = l[A + i].toNat + 256 * leNat (((l.drop A).take K).drop (i + 1))) := by
        have := leNat_drop ((l.drop A).take K) i (by rw [HL.out]; omega)
        rw [List.getElem_take, List.getElem_drop] at this
        exact this
      have hlt := leNat_lt (((l.drop A).take K).drop (i + 1))
      rw [List.length_drop, HL.out] at hlt
      have Hw := Lib.hid (refget_step _ l[A + i] _ (by omega) hlt)
      clear h5 h1 h2 h4 hlt
      generalize leNat (((l.drop A).take K).drop (i + 1)) = q at hs Hw
      have e0 : ((i + 1 : Nat) : Int) - 1 = (i : Int) := by omega
      rw [e0]
      clear e0
      go_wp2
      go_round
      case rel =>
        refine ⟨i, by omega, rfl, ?_⟩
        rw [hs.out, Hw.out]
      case measure => simp [intOf]

set_option maxHeartbeats 400000 in
theorem refput_any (w : World) (n : Nat) (sz : Int) (K : Nat) (hK : sz = K) (_hn : n < 18446744073709551616) (h8 : K ≤ 8) :
    Calls Try.prog 12 #[.int .u64 n, .int .i64 sz] w fun e w' => ∃ v, e = .returned v ∧ OwnB w' w.heap.size 5 v (leBytes K n) ∧ Below w.heap.size w w' := by
  subst hK
  go_enter Try.func12, Try.ntmps12
  go_wp2
  go_loopw [5, 6] (fun v i wr => ∃ k : Nat, k ≤ K ∧ i = .int .i64 (k : Int) ∧ OwnB wr w.heap.size 5 v (leBytes k n) ∧ Below w.heap.size w wr) (fun _ i _ => K - (intOf i).toNat)
  case atStart => exact ⟨0, Nat.zero_le _, rfl, World.ownsRow_nil _ _ _ _, Below.refl _ _⟩
  case round =>
    obtain ⟨k, hk, rfl, hown, hb⟩ := hrel
    by_cases hlt : k < K
    · have hx : RdB (fun _ => False) (wr.alloc (bobj [UInt8.ofNat (n / 256 ^ k)])) (.slice (some ⟨wr.heap.size, 0, none⟩) 1 1) [UInt8.ofNat (n / 256 ^ k)] := bobj_rd wr [_] 1 rfl (by simp [maxLen]) (fun h => h)
      have hB : w.heap.size ≤ (wr.alloc (bobj [UInt8.ofNat (n / 256 ^ k)])).heap.size := by have := hb.size; simp; omega
      obtain ⟨v', w', hr, h1, h2, h3, h4⟩ := append_bytes (ty := 22) (World.ownsRow.alloc hown _) hx (by rw [leBytes_length]; simp; omega) hB
      have hb' : Below w.heap.size w w' := (hb.alloc hb.size _).grown h2 hB (fun k hk => (hown.lt k hk).1)
      rw [← bobj_one wr _ ((n : Int) / 2 ^ (8 * k) % 256) (byte_cast n k)] at hr
      have H1 := Lib.hid h1
      have HR := Lib.hid hr
      clear h1 h2 h3 h4 hx hr hown hb hB
      go_wp2_with (at_builtin; refine wpList_append_eq rfl rfl HR.out rfl rfl ?_)
      go_roundw
      case rel => exact ⟨k + 1, by omega, by go_num, by rw [leBytes_snoc]; exact H1.out, hb'⟩
      case measure => simp [intOf]; omega
    · go_wp2_with fail
      go_ret
      obtain rfl : k = K := by omega
      exact ⟨_, rfl, hown, hb⟩


theorem put_no {F : Foot} (w : World) (v : Value) (l : List UInt8) (at_ sz : Int) (n : Nat) (hv : RdB F w v l) (h3 : -9223372036854775808 ≤ sz) (h4 : sz ≤ 9223372036854775807)
    (hn : liesB l.length at_ sz = false) :
    Calls Try.prog 9 #[v, .int .i64 at_, .int .i64 sz, .int .u64 n] w fun e w' => e = .returned (.tuple #[.slice none 0 0, .int .i64 1]) ∧ w = w' := by
  have H := Lib.hid hn
  clear hn
  go_enter Try.func9, Try.ntmps9
  go_wp2_with (go_at_call 15; refine (lies_any _ _ l _ _ hv h3 h4).mono ?_; rintro e w' ⟨rfl, rfl⟩; rw [H.out])
  go_ret2
  exact ⟨rfl, rfl⟩

theorem put_big {F : Foot} (w : World) (v : Value) (l : List UInt8) (at_ sz : Int) (n K : Nat) (hK : sz = K) (hv : RdB F w v l)
    (hn : liesB l.length at_ sz = true) (h8 : K < 8) (hb : 256 ^ K ≤ n) :
    Calls Try.prog 9 #[v, .int .i64 at_, .int .i64 sz, .int .u64 n] w fun e w' => e = .returned (.tuple #[.slice none 0 0, .int .i64 2]) ∧ w = w' := by
  subst hK
  have H := Lib.hid hn
  have hd : ((n : Int) / 2 ^ (8 * K) != 0) = true := by
    rw [bne_iff_ne]
    have h1 : 2 ^ (8 * K) = 256 ^ K := by rw [Nat.pow_mul]
    rw [← h1] at hb
    have h2 : 0 < n / 2 ^ (8 * K) := Nat.div_pos hb (Nat.pos_of_ne_zero (by simp))
    have h3 : ((n / 2 ^ (8 * K) : Nat) : Int) = (n : Int) / 2 ^ (8 * K) := by push_cast; rfl
    rw [← h3]
    omega
  clear hn hb
  go_enter Try.func9, Try.ntmps9
  go_wp2_with (go_at_call 15; refine (lies_any _ _ l _ _ hv (by omega) (by omega)).mono ?_; rintro e w' ⟨rfl, rfl⟩; rw [H.out])
  go_ret2
  exact ⟨rfl, rfl⟩

set_option maxHeartbeats 400000 in
theorem put_ok {F : Foot} (w : World) (v : Value) (l : List UInt8) (at_ sz : Int) (n A K : Nat) (X : List UInt8) (hA : at_ = A) (hK : sz = K) (hX : putAt l A (leBytes K n) = X) (hv : RdB F w v l) (hlen : l.length ≤ 140737488355328)
    (hn : liesB l.length at_ sz = true) (hb : K < 8 → n < 256 ^ K) :
    Calls Try.prog 9 #[v, .int .i64 at_, .int .i64 sz, .int .u64 n] w fun e w' =>
      e = .returned (.tuple #[.slice (some ⟨w.heap.size, 0, none⟩) l.length l.length, .int .i64 0]) ∧ w.alloc (bobj X) = w' := by
  subst hX
  subst hA
  subst hK
  obtain ⟨hs, _, hl, hat⟩ := liesB_true hn
  obtain ⟨a, c, rfl, hlc, hcm⟩ := hv.form
  have hm : (l.length : Int) ≤ 9223372036854775807 := by omega
  have hK8 : K ≤ 8 := by omega
  have hAK : A + K ≤ l.length := by omega
  have H := Lib.hid hn
  have hd : K < 8 → ((n : Int) / 2 ^ (8 * K) != 0) = false := by
    intro h
    have hb := hb h
    have h1 : 2 ^ (8 * K) = 256 ^ K := by rw [Nat.pow_mul]
    rw [← h1] at hb
    have h3 : ((n / 2 ^ (8 * K) : Nat) : Int) = (n : Int) / 2 ^ (8 * K) := by push_cast; rfl
    rw [← h3, Nat.div_eq_of_lt hb]
    rfl
  have hmk := make_bytes0 l.length hlen
  have HR := Lib.hid (copied_bytes (ty := 22) hv hlen)
  clear hn hb hs hcm
  go_enter Try.func9, Try.ntmps9
  have hdd : (K < 8 ∧ ((n : Int) / 2 ^ (8 * K) != 0) = false) ∨ 8 ≤ K := by
    rcases Nat.lt_or_ge K 8 with h | h
    · exact .inl ⟨h, hd h⟩
    · exact .inr h
  clear hd
  rcases hdd with ⟨h8, hd'⟩ | h8
  all_goals
    go_wp2_with (first | (go_at_call 15; refine (lies_any _ _ l _ _ hv (by omega) (by omega)).mono ?_; rintro e w' ⟨rfl, rfl⟩; rw [H.out]) | (at_builtin; refine wpList_append_eq rfl rfl HR.out rfl rfl ?_))
    clear HR hmk
    go_loopw [34] (fun i wr => ∃ k : Nat, k ≤ K ∧ i = .int .i64 (k : Int) ∧ w.alloc (bobj (putAt l A (leBytes k n))) = wr) (fun i _ => K - (intOf i).toNat)
    case atStart => exact ⟨0, Nat.zero_le _, rfl, by rw [leBytes, putAt_nil]⟩
    case round =>
      obtain ⟨k, hk, rfl, rfl⟩ := hrel
      by_cases hlt : k < K
      · have hpl : (putAt l A (leBytes k n)).length = l.length := putAt_length _ _ _ (by rw [leBytes_length]; omega)
        obtain ⟨b0, hc⟩ : ∃ b0 : Int, (w.alloc (bobj (putAt l A (leBytes k n)))).cell? ⟨w.heap.size, A + k, none⟩ = some (.int .u8 b0) := ⟨_, bobj_cell w (putAt l A (leBytes k n)) (A + k) (by omega)⟩
        have hf := bobj_frozen w (putAt l A (leBytes k n)) (A + k)
        have HS := Lib.hid (bobj_set w (putAt l A (leBytes k n)) (A + k) _ _ (byte_cast n k))
        have HP : Hid ((putAt l A (leBytes k n)).set (A + k) (UInt8.ofNat (n / 256 ^ k)) = putAt l A (leBytes (k + 1) n)) := by
          have := putAt_snoc l A (leBytes k n) (UInt8.ofNat (n / 256 ^ k)) (by rw [leBytes_length]; omega)
          rw [leBytes_length] at this
          rw [leBytes_snoc]
          exact this
        clear hpl
        go_wp2
        go_roundw
        case rel => exact ⟨k + 1, by omega, by go_num, by rw [← HP.out, ← HS.out]⟩
        case measure => simp [intOf]; omega
      · obtain rfl : k = K := by omega
        go_wp2
        go_ret2
        exact ⟨rfl, rfl⟩


theorem awake1 (w : World) : Calls Try.prog 7 #[] w fun e w' => e = .returned (.bool true) ∧ Below w.heap.size w w' := by
  have kc := conv_bytes
  have HC : Hid (((crcOf [97]).toNat : Int) = 3904355907) := by show _ = _; decide +kernel
  have HG : Hid (liesB [(2 : UInt8), 1].length 0 2 = true) := by show _ = _; decide
  go_enter Try.func7, Try.ntmps7
  go_wp2_with (first
    | (go_at_call 10; refine (get_yes (F := NoF) _ _ [2, 1] 0 2 258 rfl (lit_rd _ _ _ [2, 1] rfl _ _ _ rfl rfl rfl (by simp [maxLen]) (noF _)) HG.out).mono ?_; rintro e w' ⟨rfl, rfl⟩)
    | (go_at_call 8; refine (of_any (F := NoF) _ _ [97] 3904355907 HC.out (lit_rd _ _ _ [97] rfl _ _ _ (by simp) rfl rfl (by simp [maxLen]) (noF _))).mono ?_; rintro e w' ⟨rfl, rfl⟩))
  go_ret
  exact ⟨rfl, ((Below.refl _ _).alloc (Nat.le_refl _) _).alloc (by simp) _⟩

end Mun
