import Derived.Test.YtimlibdojkfilaaSumU
set_option maxRecDepth 100000
set_option linter.unusedVariables false
namespace Mun
open Go Go.RowKit
open Go.Proofs

theorem below_alloc1 (w : World) (o : Obj) : Below w.heap.size w (w.alloc o) := (Below.refl _ _).alloc (Nat.le_refl _) o

theorem OwnB.prefix_rd {w : World} {base g n m c : Nat} {e : TypeId} {l r : List UInt8} (h : OwnB w base e (.slice (some ⟨g, 0, none⟩) n c) (l ++ r)) (hm : m = l.length) (hp : 0 < l.length + r.length) : RdB NoF w (.slice (some ⟨g, 0, none⟩) m c) l := by
  subst hm
  obtain ⟨g', c', hv, hb, hlt, h1, h2, h3, h4⟩ := h.at_ (by simp; omega)
  injection hv with e1 e2 e3
  injection e1 with e1
  injection e1 with e1 _ _
  subst e1 e2 e3
  refine rd_of_cells rfl (by simp at h1; omega) h2 (noF _) (fun i hi => ?_)
  rw [addr_add, Nat.zero_add, h3 i (by simp; omega)]
  congr 2
  rw [List.getElem_append_left hi]

set_option maxHeartbeats 2000000 in
theorem kept_no (w : World) (v : Value) (l : List UInt8) (at_ sz : Int) (n : Nat) (hv : RdB NoF w v l) (hlen : l.length ≤ 140737488351232)
    (h3 : -9223372036854775808 ≤ sz) (h4 : sz ≤ 9223372036854775807) (hn : liesB l.length at_ sz = false ∨ (liesB l.length at_ sz = true ∧ ∃ K : Nat, sz = K ∧ K < 8 ∧ 256 ^ K ≤ n)) :
    Calls Try.prog 5 #[v, .int .i64 at_, .int .i64 sz, .int .u64 n] w fun e w' => e = .returned (.bool true) ∧ Below w.heap.size w w' := by
  obtain ⟨a, N, c, rfl, HN, hlc, hcm⟩ := hv.formN
  have hm : (N : Int) ≤ 140737488351232 := by rw [HN.out]; omega
  have hput : ∀ (W : World) (x : Value), RdB NoF W x l → ∃ er : Int, Hid (er = 1 ∨ er = 2) ∧ Calls Try.prog 9 #[x, .int .i64 at_, .int .i64 sz, .int .u64 n] W fun e w' => e = .returned (.tuple #[.slice none 0 0, .int .i64 er]) ∧ W = w' := by
    intro W x hx
    rcases hn with hn | ⟨hn, K, hK, h8, hb⟩
    · exact ⟨1, .inl rfl, put_no W x l at_ sz n hx h3 h4 hn⟩
    · exact ⟨2, .inr rfl, put_big W x l at_ sz n K hK hx hn h8 hb⟩
  have HP := Lib.hid hput
  have hsl := fun (g cap : Nat) (h : N ≤ cap) (W : World) => slice_to (some ⟨g, 0, none⟩) (N + 1) cap N (N : Int) rfl h (.inr ⟨g, 0, rfl⟩) W
  have HSL := Lib.hid hsl
  clear hn hput hsl
  go_enter Try.func5, Try.ntmps5
  go_wp2_with (first
      | (go_at_call 7; refine (awake1 _).mono ?_; rintro e w2 ⟨rfl, hbw⟩
         obtain ⟨g, cap, w3, hr, ho, hB3, hgw⟩ := append_empty_bytes (ty := 22) (hv.below hbw) (by omega)
         obtain ⟨g4, cap4, w4, hr4, ho4, hg4, hb4, hc4, hd4⟩ := append_byte (ty := 22) 201 201 rfl ho (by omega) hB3.size
         have hB4 : Below w2.heap.size w2 w4 := (hB3.alloc hB3.size _).grown hg4 (by have := hB3.size; simp; omega) (fun k hk => by simp [Value.ownBlock] at hk; omega)
         rw [← HN.out] at ho hr hr4 ho4 hc4
         have HO4 := Lib.hid ho4
         have HR := Lib.hid hr
         have HR4 := Lib.hid hr4
         have hsl := HSL.out g4 cap4 (by omega)
         clear ho hr hr4 ho4 hg4)
      | (at_builtin; refine wpList_append_eq rfl rfl HR.out rfl rfl ?_; clear HR)
      | (at_builtin; refine wpList_append_eq rfl rfl HR4.out rfl rfl ?_; clear HR4))
  have hx := OwnB.prefix_rd HO4.out HN.out (by simp)
  have hva : RdB NoF w4 (.slice a N c) l := (hv.below hbw).keep (w' := w4) (fun k hk _ => hB4.block k hk) (fun _ _ h => h)
  obtain ⟨er, her, hput⟩ := HP.out w4 _ hx
  have he : (er != 0) = true := by rw [bne_iff_ne]; have := her.out; omega
  have hs1 := str_bytes hx
  have hs2 := str_bytes hva
  refine hput.mono ?_
  rintro e w5 ⟨rfl, rfl⟩
  go_wp2
  go_ret
  exact ⟨rfl, hbw.trans (hB4.mono hbw.size)⟩

set_option maxHeartbeats 2000000 in
theorem kept_ok (w : World) (v : Value) (l : List UInt8) (n A K : Nat) (hv : RdB NoF w v l) (hlen : l.length ≤ 140737488351232) (hn64 : n < 18446744073709551616)
    (hn : liesB l.length A K = true) (hb : K < 8 → n < 256 ^ K) :
    Calls Try.prog 5 #[v, .int .i64 A, .int .i64 K, .int .u64 n] w fun e w' => e = .returned (.bool true) ∧ Below w.heap.size w w' := by
  have HL := Lib.hid hn
  obtain ⟨hs, h0, h1, h2⟩ := liesB_true hn
  obtain ⟨a, N, c, rfl, HN, hlc, hcm⟩ := hv.formN
  have hm : (N : Int) ≤ 140737488351232 := by rw [HN.out]; omega
  have HB := Lib.hid hb
  have hAK : A + K ≤ l.length := by omega
  have hnK : n % 256 ^ K = n := by
    rcases Nat.lt_or_ge K 8 with h | h
    · exact Nat.mod_eq_of_lt (hb h)
    · have : K = 8 := by omega
      subst this
      exact Nat.mod_eq_of_lt (by omega)
  obtain ⟨X, hXe⟩ : ∃ X, putAt l A (leBytes K n) = X := ⟨_, rfl⟩
  have hXl : X.length = N := by rw [← hXe, HN.out]; exact putAt_length _ _ _ (by rw [leBytes_length]; exact hAK)
  have HQ : Hid (((leNat ((X.drop (A : Int).toNat).take (K : Int).toNat) : Nat) : Int) = (n : Int)) := by
    show _ = _
    have := putAt_take_drop l A (leBytes K n) (by rw [leBytes_length]; exact hAK)
    rw [leBytes_length, hXe] at this
    rw [Int.toNat_natCast, Int.toNat_natCast, this, leNat_leBytes, hnK]
  have HLX : Hid (liesB X.length A K = true) := by show _ = _; rw [hXl, HN.out]; exact hn
  have HXL := Lib.hid hXl
  have HXE := Lib.hid hXe
  have hsl := fun (g cap : Nat) (h : N ≤ cap) (W : World) => slice_to (some ⟨g, 0, none⟩) (N + 1) cap N (N : Int) rfl h (.inr ⟨g, 0, rfl⟩) W
  have HSL := Lib.hid hsl
  have hsm := fun (g cap : Nat) (h : N + 1 ≤ cap) (W : World) => slice_to (some ⟨g, 0, none⟩) N cap (N + 1) ((N : Int) + 1) (by omega) h (.inr ⟨g, 0, rfl⟩) W
  have HSM := Lib.hid hsm
  clear hn hsl hsm hs hb hnK hXl hXe hn64
  go_enter Try.func5, Try.ntmps5
  go_wp2_with (first
      | (go_at_call 7; refine (awake1 _).mono ?_; rintro e w2 ⟨rfl, hbw⟩
         obtain ⟨g, cap, w3, hr, ho, hB3, hgw⟩ := append_empty_bytes (ty := 22) (hv.below hbw) (by omega)
         obtain ⟨g4, cap4, w4, hr4, ho4, hg4, hb4, hc4, hd4⟩ := append_byte (ty := 22) 201 201 rfl ho (by omega) hB3.size
         have hB4 : Below w2.heap.size w2 w4 := (hB3.alloc hB3.size _).grown hg4 (by have := hB3.size; simp; omega) (fun k hk => by simp [Value.ownBlock] at hk; omega)
         rw [← HN.out] at ho hr hr4 ho4 hc4
         have HO4 := Lib.hid ho4
         have HR := Lib.hid hr
         have HR4 := Lib.hid hr4
         have hsl := HSL.out g4 cap4 (by omega)
         clear ho hr hr4 ho4 hg4)
      | (at_builtin; refine wpList_append_eq rfl rfl HR.out rfl rfl ?_; clear HR)
      | (at_builtin; refine wpList_append_eq rfl rfl HR4.out rfl rfl ?_; clear HR4))
  have hx := OwnB.prefix_rd HO4.out HN.out (by simp)
  have hva : RdB NoF w4 (.slice a N c) l := (hv.below hbw).keep (w' := w4) (fun k hk _ => hB4.block k hk) (fun _ _ h => h)
  clear hsl
  refine (put_ok w4 _ l _ _ n A K X rfl rfl HXE.out hx (by omega) HL.out HB.out).mono ?_
  rintro e w5 ⟨rfl, rfl⟩
  rw [← HN.out]
  have hX : RdB NoF (w4.alloc (bobj X)) (.slice (some ⟨w4.heap.size, 0, none⟩) N N) X := by
    have := bobj_rd (F := NoF) w4 X _ rfl (by rw [HXL.out]; unfold maxLen; omega) (noF _)
    rw [HXL.out] at this
    exact this
  go_wp2_with (go_at_call 10; refine (get_yes _ _ X _ _ n HQ.out hX HLX.out).mono ?_; rintro e w' ⟨rfl, rfl⟩)
  clear hX
  go_loopw [14] (fun i wr => ∃ (j : Nat) (Y : List UInt8), j ≤ N ∧ i = .int .i64 (j : Int) ∧ Y.length = N ∧ w4.alloc (bobj Y) = wr) (fun i _ => N - (intOf i).toNat)
  case atStart => exact ⟨0, X, by omega, rfl, HXL.out, rfl⟩
  case round =>
    obtain ⟨j, Y, hj, rfl, hY, rfl⟩ := hrel
    rcases Nat.lt_or_eq_of_le hj with hlt | heq
    · have hc := bobj_cell w4 Y j (by omega)
      have hf := bobj_frozen w4 Y j
      generalize Y[j] = b0 at hc
      have hbb : (b0.toNat : Int) < 256 := by have := b0.toNat_lt; omega
      have HX : Hid (bits .xor .u8 (b0.toNat : Int) 255 = ((b0 ^^^ 255).toNat : Int)) := by
        show _ = _
        rw [show (255 : Int) = ((255 : Nat) : Int) from rfl, u8_xor_nat _ _ b0.toNat_lt (by omega), UInt8.toNat_xor]
        rfl
      have HY := Lib.hid hY
      clear hY
      go_wp2
      go_roundw
      case rel => exact ⟨j + 1, Y.set j (b0 ^^^ 255), by omega, by go_num, by rw [List.length_set]; exact HY.out, by rw [HX.out]; exact (bobj_set w4 Y j _ _ rfl).symm⟩
      case measure => simp [intOf]; omega
    · have hge := Nat.le_of_eq heq.symm
      clear heq
      have hoY : OwnB (w4.alloc (bobj Y)) w4.heap.size 5 (.slice (some ⟨w4.heap.size, 0, none⟩) N N) Y := by
        have := bobj_own w4 Y _ w4.heap.size rfl (by rw [hY]; unfold maxLen; omega) (Nat.le_refl _)
        rw [hY] at this
        exact this
      obtain ⟨g6, cap6, w6, hr6, ho6, hg6, hb6, hc6, hd6⟩ := append_byte (ty := 22) 99 99 rfl hoY (by omega) (by simp)
      have hB6 : Below w4.heap.size w4 w6 := ((below_alloc1 w4 (bobj Y)).alloc (by simp) _).grown hg6 (by simp; omega) (fun k hk => by simp [Value.ownBlock] at hk; omega)
      rw [World.size_alloc, hY] at hr6
      have HR6 := Lib.hid hr6
      clear hr6 ho6 hg6 hb6 hc6 hd6 hoY
      have hs1 := str_bytes (hx.below hB6)
      have hs2 := str_bytes (hva.below hB6)
      have hsm := HSM.out g4 cap4 hc4
      have hc201 : w6.cell? ⟨g4, N, none⟩ = some (.int .u8 201) := by
        have h1 := HO4.out.cellAt N (by rw [HN.out]; simp)
        have hlt : g4 < w4.heap.size := World.block_lt_of_cell? w4 _ h1
        rw [hB6.cell (p := ⟨g4, N, none⟩) hlt, h1]
        congr 2
        have hN := HN.out
        subst hN
        simp
      go_wp2_with (at_builtin; refine wpList_append_eq rfl rfl HR6.out rfl rfl ?_; clear HR6)
      go_ret
      exact ⟨rfl, hbw.trans ((hB4.mono hbw.size).trans (hB6.mono (Nat.le_trans hbw.size hB4.size)))⟩

theorem kept_all (w : World) (v : Value) (l : List UInt8) (at_ sz : Int) (n : Nat) (hv : RdB NoF w v l) (hlen : l.length ≤ 140737488351232)
    (h3 : -9223372036854775808 ≤ sz) (h4 : sz ≤ 9223372036854775807) (h5 : n ≤ 18446744073709551615) :
    Calls Try.prog 5 #[v, .int .i64 at_, .int .i64 sz, .int .u64 n] w fun e w' => e = .returned (.bool true) ∧ Below w.heap.size w w' := by
  cases hL : liesB l.length at_ sz with
  | false => exact kept_no w v l at_ sz n hv hlen h3 h4 (.inl hL)
  | true =>
    obtain ⟨hs, ha, hl, hb⟩ := liesB_true hL
    obtain ⟨A, rfl⟩ := Int.eq_ofNat_of_zero_le ha
    obtain ⟨K, rfl⟩ := Int.eq_ofNat_of_zero_le (show 0 ≤ sz by omega)
    by_cases hbig : K < 8 ∧ 256 ^ K ≤ n
    · exact kept_no w v l A K n hv hlen h3 h4 (.inr ⟨hL, K, rfl, hbig.1, hbig.2⟩)
    · exact kept_ok w v l n A K hv hlen (by omega) hL (fun h => by
        rcases Nat.lt_or_ge n (256 ^ K) with h' | h'
        · exact h'
        · exact absurd ⟨h, h'⟩ hbig)
end Mun
