/- The walk of LockPlays. -/
import Derived.Test.YtbdkhegfmnladaaRfL
import Derived.Test.YtbdkhegfmnladaaLockG
import Derived.Deep.DeepCutAuto
set_option maxRecDepth 100000
set_option linter.unusedVariables false
set_option linter.unusedSimpArgs false
namespace Mun
open Go Go.RowKit
open Go.Proofs

abbrev plF (t : TV) (BM : Nat) : Foot := fun k => tfoot t k ∨ k = BM
/-- the reference's table in a law's walk: its box, its rows -/
structure PlM (w : World) (t : TV) (BM : Nat) (mv : Value) (X : List LX) : Prop where
  mb : w.heap[BM]? = some (.cells #[mv] 51 (0, 0))
  mt : TabF (plF t BM) w mv X
  nb : ¬ tfoot t BM
/-- the law's own copy of a deed -/
structure BxP (w : World) (D : Nat) (op o : Int) (s : ByteArray) (m : Int) (t : TV) : Prop where
  blk : w.heap[D]? = some (.cells #[.int .i64 op, .int .u64 o, .string s, .int .i64 m] 42 (0, 0))
  nt : ¬ tfoot t D
section
variable {F F' : Foot} {w w' w1 : World} {t t' : TV} {BM D T c : Nat} {mv v' : Value} {X X' : List LX} {op o m : Int} {s : ByteArray} {A : AS}
theorem TabF.keep (h : TabF F w mv X) (hk : ∀ k, k < w.heap.size → ¬ F k → w'.heap[k]? = w.heap[k]?) (hF : ∀ k, k < w.heap.size → F' k → F k) : TabF F' w' mv X :=
  ⟨h.row.keep hk hF, fun x hx => (h.hr x hx).keep hk hF, fun x hx => (h.qr x hx).keep hk hF⟩
theorem PlM.below (h : PlM w t BM mv X) (hb : Below w.heap.size w w') : PlM w' t BM mv X := ⟨(hb.block _ (lt_of_block h.mb)).trans h.mb, h.mt.below hb, h.nb⟩
theorem PlM.stp (h : PlM w t BM mv X) (k : Stp w t w' t') : PlM w' t' BM mv X :=
  ⟨k.block h.mb h.nb, h.mt.keep (fun j hj hn => k.chg.block j hj (fun e => hn (.inl e))) (fun j hj h9 => h9.elim (fun e => (k.chg.foot j e).elim .inl (fun x => by omega)) .inr), k.nfoot (lt_of_block h.mb) h.nb⟩
theorem BxP.below (h : BxP w D op o s m t) (hb : Below w.heap.size w w') : BxP w' D op o s m t := ⟨(hb.block D (lt_of_block h.blk)).trans h.blk, h.nt⟩
theorem BxP.stp (h : BxP w D op o s m t) (k : Stp w t w' t') : BxP w' D op o s m t' := ⟨k.block h.blk h.nt, k.nfoot (lt_of_block h.blk) h.nt⟩
/-- the box takes a new table -/
theorem PlM.set (h : w.heap[BM]? = some (.cells #[mv] 51 (0, 0))) (hn : ¬ tfoot t BM) (ht : TabF (plF t BM) w v' X') : PlM (w.setRow BM #[v']) t BM v' X' :=
  ⟨setRow_heap w _ _ _ _ _ h, ht.keep (fun j hj hne => setRow_otherL _ _ _ _ (fun e => hne (.inr e))) (fun j hj h9 => h9), hn⟩
theorem Sd.box (h : Sd w1 w T t A c) (hn : ¬ tfoot t BM) (hb : w1.heap.size ≤ BM) (cs : Array Value) : Sd w1 (w.setRow BM cs) T t A c :=
  h.turn (by rw [setRow_size]; exact Nat.le_refl _) rfl rfl rfl (fun k hk hor => setRow_otherL _ _ _ _ (fun e => by
    rcases hor with h9 | h9
    · omega
    · exact hn (e ▸ h9)))
theorem plF_lt (h : Sd w1 w T t A c) (hm : PlM w t BM mv X) : ∀ k, plF t BM k → k < w.heap.size := fun k hk => hk.elim (fun e => h.tab.foot_lt e) (fun e => by rw [e]; exact lt_of_block hm.mb)
theorem outP_popped {X : List LX} (hr : RelX X A) (o : Int) {ns : List ByteArray} (h1 : ns.Pairwise leN) (h2 : ns.Nodup) (h3 : ∀ s, s ∈ ns ↔ A.touched o s) : outP A o (X.map (·.name)) = popped A o ns := hr.outP_all o h1 h2 h3
end

set_option maxHeartbeats 8000000 in
theorem plays14_any (w : World) (v : Value) (l : List LDeed) (hv : LDeedsAt NoF w v l) (hl : l.length ≤ 1048575) :
    Calls Try.prog 10 #[v] w fun e w' => e = .returned (.bool true) ∧ Below w.heap.size w w' := by
  obtain ⟨va, vc, rfl, -, -⟩ := hv.row.form
  have haw := awake14 w
  have HV := Lib.hid (And.intro hv hl)
  obtain ⟨n, HN⟩ : ∃ n, Hid (l.length = n) := ⟨_, rfl⟩
  rw [HN.out]
  clear hv hl
  go_enter Try.func10, Try.ntmps10
  go_wp2_with fail
  refine haw.mono ?_
  rintro e w1 ⟨rfl, hb1⟩
  have HB1 := Lib.hid hb1
  have hnew := sd_new w1
  have HNEW := Lib.hid hnew
  clear hb1 hnew haw
  go_wp2_with fail
  refine HNEW.out.mono ?_
  rintro e w2 ⟨t, rfl, hb2, ht⟩
  obtain ⟨T, hT⟩ : ∃ T, t.T = T := ⟨_, rfl⟩
  rw [hT] at ht ⊢
  obtain ⟨BM, hBM⟩ : ∃ BM, w2.heap.size = BM := ⟨_, rfl⟩
  obtain ⟨w3, hw3⟩ : ∃ w3, w2.alloc (.cells #[.slice none 0 0] 51) = w3 := ⟨_, rfl⟩
  have hb3 : Below w2.heap.size w2 w3 := by rw [← hw3]; exact (Below.refl _ _).alloc (Nat.le_refl _) _
  have k3 : w3.heap[BM]? = some (.cells #[.slice none 0 0] 51 (0, 0)) := by rw [← hw3, ← hBM]; exact heap_alloc_new w2 _
  have hbm1 : w1.heap.size ≤ BM := by rw [← hBM]; exact hb2.size
  have HT : Hid (Sd w1 w3 T t AS.none 0 ∧ PlM w3 t BM (.slice none 0 0) [] ∧ w1.heap.size ≤ BM) := ⟨ht.below hb3, ⟨k3, TabF.nil _ _, ht.tab.nfoot_new (by omega)⟩, hbm1⟩
  clear HNEW hT hb2 ht hb3 k3 hbm1
  have HNB : Hid (n ≤ 1048575) := by show _ ≤ _; have := HV.out.2; have := HN.out; omega
  go_wp2_with fail
  try rw [hw3]
  go_loopw [5] (fun iv wr => ∃ (i : Nat) (t : TV) (A : AS) (ma : Option Addr) (mn mc : Nat) (X : List LX), iv = .int .i64 i ∧ i ≤ n ∧ Sd w1 wr T t A i ∧ PlM wr t BM (.slice ma mn mc) X ∧ RelX X A ∧ XSz X i) (fun iv _ => n - (Go.RowKit.intOf iv).toNat)
  case atStart => exact ⟨0, t, _, none, 0, 0, [], rfl, Nat.zero_le _, HT.out.1, HT.out.2.1, RelX.empty, ⟨Nat.le_refl _, Nat.le_refl _⟩⟩
  case round =>
    obtain ⟨i, t, A, ma, mn, mc, X, rfl, hin, hat, hpm, hrel2, hsz⟩ := hrel
    have hb : Below w.heap.size w wr := HB1.out.trans (hat.bl.mono HB1.out.size)
    by_cases hlt : i < n
    · have hil : i < l.length := by rw [HN.out]; exact hlt
      obtain ⟨g, off, c', hvv, k0, k1, k2, k3⟩ := (HV.out.1.below hb).at_ i hil
      rw [HN.out] at hvv
      injection hvv with e1 e2 e3
      subst e1
      have hdk := HV.out.1.ok _ (List.getElem_mem hil)
      obtain ⟨x, hx⟩ : ∃ x, l[i] = x := ⟨_, rfl⟩
      rw [hx] at k0 k1 k2 k3 hdk
      obtain ⟨xop, xo, xs, xm⟩ := x
      obtain ⟨-, -, hxs, -⟩ := hdk
      simp only at k0 k1 k2 k3 hxs
      have hii : (i : Int) < (n : Int) := by omega
      have hi0 : (0 : Int) ≤ (i : Int) := by omega
      obtain ⟨D, hD⟩ : ∃ D, wr.heap.size = D := ⟨_, rfl⟩
      obtain ⟨wA, hwA⟩ : ∃ wA, wr.alloc (.cells #[.int .i64 xop, .int .u64 xo, .string xs, .int .i64 xm] 42) = wA := ⟨_, rfl⟩
      have hbA : Below wr.heap.size wr wA := by rw [← hwA]; exact (Below.refl _ _).alloc (Nat.le_refl _) _
      have kA : wA.heap[D]? = some (.cells #[.int .i64 xop, .int .u64 xo, .string xs, .int .i64 xm] 42 (0, 0)) := by rw [← hwA, ← hD]; exact heap_alloc_new wr _
      have hbx : BxP wA D xop xo xs xm t := ⟨kA, hat.tab.nfoot_new (by omega)⟩
      have HWJ : Hid (wrap64 ((i : Int) + 1) = ((i + 1 : Nat) : Int)) := by show _ = _; have := HNB.out; unfold wrap64; omega
      have HX := Lib.hid (And.intro (hat.below hbA) (And.intro (hpm.below hbA) (And.intro hbx (And.intro hrel2 (And.intro hsz (And.intro hlt hxs))))))
      have z0 := cell_of_row wA D 0 _ _ _ kA
      have z1 := cell_of_row wA D 1 _ _ _ kA
      have z2 := cell_of_row wA D 2 _ _ _ kA
      have z3 := cell_of_row wA D 3 _ _ _ kA
      clear hbA kA hbx hat hpm hrel2 hsz hlt hin hxs hx hil hb e2 e3
      by_cases h4 : xop ≤ 4
      · have hak := HX.out.1.ask (by have := HNB.out; have := HX.out.2.2.2.2.2.1; omega) xo xs xm (by have := HX.out.2.2.2.2.2.2; unfold maxLen; omega)
        obtain ⟨ea, hea⟩ : ∃ ea, (A.ask xo xs xm).2 = ea := ⟨_, rfl⟩
        rw [hea] at hak
        have HAK := Lib.hid hak
        clear hak
        go_wp2_with fail
        clear z0 z1 z2 z3 hwA k0 k1 k2 k3
        refine HAK.out.mono ?_
        rintro e w4 ⟨rfl, t', hst, hsd⟩
        have hpm4 := HX.out.2.1.stp hst
        have hbx4 := HX.out.2.2.1.stp hst
        have z1 := cell_of_row w4 D 1 _ _ _ hbx4.blk
        have z2 := cell_of_row w4 D 2 _ _ _ hbx4.blk
        have z3 := cell_of_row w4 D 3 _ _ _ hbx4.blk
        have hra := r14_ask w4 _ X A hpm4.mt (plF_lt hsd hpm4) HX.out.2.2.2.1 HX.out.1.ok (HX.out.2.2.2.2.1.mono (by have := HNB.out; have := HX.out.2.2.2.2.2.1; omega)) xo xs xm
        have HRA := Lib.hid hra
        have H4 := Lib.hid (And.intro hpm4 hsd)
        clear hst hsd hpm4 hbx4 hra HAK
        go_wp2_with (first | (refine wpList_load_row rfl _ _ rfl BM rfl _ _ (0, 0) _ H4.out.1.mb Try.underlying51 rfl infoT ?_) | fail)
        clear z1 z2 z3
        refine HRA.out.mono ?_
        rintro e w5 ⟨v', X', rfl, hr5, ht5, hb5, hl5, hq5⟩
        rw [hea]
        obtain ⟨ra, rc, rfl, -, -⟩ := ht5.row.form
        obtain ⟨rn, hrn⟩ : ∃ rn, X'.length = rn := ⟨_, rfl⟩
        rw [hrn] at ht5 ⊢
        have hpm5 := H4.out.1.below hb5
        have hsd5 := H4.out.2.below hb5
        obtain ⟨B8, hB8⟩ : ∃ B8, w5.heap.size = B8 := ⟨_, rfl⟩
        obtain ⟨w6, hw6⟩ : ∃ w6, w5.alloc (.cells #[.slice none 0 0] 51) = w6 := ⟨_, rfl⟩
        have k6 : w6.heap[B8]? = some (.cells #[.slice none 0 0] 51 (0, 0)) := by rw [← hw6, ← hB8]; exact heap_alloc_new w5 _
        have hb6 : Below w5.heap.size w5 w6 := by rw [← hw6]; exact (Below.refl _ _).alloc (Nat.le_refl _) _
        obtain ⟨w7, hw7⟩ : ∃ w7, w6.setRow B8 #[.slice ra rn rc] = w7 := ⟨_, rfl⟩
        have k7 : w7.heap[B8]? = some (.cells #[.slice ra rn rc] 51 (0, 0)) := by rw [← hw7]; exact setRow_heap w6 _ _ _ _ _ k6
        have hb7 : Below w5.heap.size w5 w7 := ⟨by rw [← hw7]; exact hb6.os, by rw [← hw7]; exact hb6.tape, by rw [← hw7]; exact hb6.output, by rw [← hw7, setRow_size]; exact hb6.size, fun j hj => by rw [← hw7, setRow_otherL _ _ _ _ (by omega)]; exact hb6.block j hj⟩
        have hpm7 := hpm5.below hb7
        have hsd7 := hsd5.below hb7
        obtain ⟨w8, hw8⟩ : ∃ w8, w7.setRow BM #[.slice ra rn rc] = w8 := ⟨_, rfl⟩
        have hpm8 := PlM.set hpm7.mb hpm7.nb (ht5.below hb7)
        have hsd8 := hsd7.box hpm7.nb HT.out.2.2 #[.slice ra rn rc]
        rw [hw8] at hpm8 hsd8
        have HS : Hid (Sd w1 w8 T t' (A.ask xo xs xm).1 (i + 1) ∧ PlM w8 t' BM (.slice ra rn rc) X' ∧ RelX X' (A.ask xo xs xm).1 ∧ XSz X' (i + 1)) := ⟨hsd8, hpm8, hr5, ⟨by have := HX.out.2.2.2.2.1.ln; omega, by have := HX.out.2.2.2.2.1.tt; omega⟩⟩
        have HK := Lib.hid (And.intro k6 (And.intro k7 hpm7.mb))
        have hee : (ea == ea) = true := by simp
        clear hr5 ht5 hb5 hl5 hq5 hrn hpm5 hsd5 k6 hb6 k7 hb7 hpm7 hsd7 hpm8 hsd8 HRA H4 hea
        have z8 : w8.cell? ⟨BM, 0, none⟩ = some (.slice ra rn rc) := cell_of_row w8 BM 0 _ _ _ HS.out.2.1.mb
        have hlk := looks_true (F := plF t' BM) (.slice (some ⟨g, off, none⟩) n vc) (.slice ra rn rc) X' l HS.out.1 (by have := HNB.out; have := HX.out.2.2.2.2.2.1; omega) HS.out.2.1.mt HS.out.2.2.1 (HS.out.2.2.2.mono (by have := HNB.out; have := HX.out.2.2.2.2.2.1; omega)) (by have h9 := HV.out.1.below (HB1.out.trans (HS.out.1.bl.mono HB1.out.size)); rw [HN.out] at h9; exact h9) (by have := HV.out.2; omega)
        have HLK := Lib.hid hlk
        clear hlk
        go_wp2_with (first | (refine wpList_store_row rfl _ _ _ rfl B8 _ rfl rfl _ _ HK.out.1 infoT rfl (by simp [Value.oneCell']) ?_; rw [hw7]) | (refine wpList_load_row rfl _ _ rfl B8 rfl _ _ (0, 0) _ HK.out.2.1 Try.underlying51 rfl infoT ?_) | (refine wpList_store_row rfl _ _ _ rfl BM _ rfl rfl _ _ HK.out.2.2 infoT rfl (by simp [Value.oneCell']) ?_; rw [hw8]) | fail)
        all_goals first
          | (refine HLK.out.mono ?_
             rintro e w9 ⟨rfl, hb9⟩
             have H9 := Lib.hid (And.intro (HS.out.1.below hb9) (And.intro (HS.out.2.1.below hb9) HS.out.2.2))
             clear hb9 z8
             go_wp2
             go_roundw
             case rel => exact ⟨i + 1, t', _, ra, rn, rc, X', by rw [HWJ.out], HX.out.2.2.2.2.2.1, H9.out⟩
             case measure => exact meas_up HWJ.out HX.out.2.2.2.2.2.1)
          | (go_roundw
             case rel => exact ⟨i + 1, t', _, ra, rn, rc, X', by rw [HWJ.out], HX.out.2.2.2.2.2.1, HS.out⟩
             case measure => exact meas_up HWJ.out HX.out.2.2.2.2.2.1)
      · have hfr := HX.out.1.free (by have := HNB.out; have := HX.out.2.2.2.2.2.1; omega) xo
        have HFR := Lib.hid hfr
        clear hfr
        go_wp2_with fail
        clear z0 z1 z2 z3 hwA k0 k1 k2 k3
        refine HFR.out.mono ?_
        rintro e w4 ⟨va1, ns1, t', rfl, hp1, hnd1, hm1, hst, hsd, hrow1, hnf1, hln1⟩
        have hpm4 := HX.out.2.1.stp hst
        have hbx4 := HX.out.2.2.1.stp hst
        have z1 := cell_of_row w4 D 1 _ _ _ hbx4.blk
        have hra := r14_free w4 _ X A hpm4.mt (plF_lt hsd hpm4) HX.out.2.2.2.1 (HX.out.2.2.2.2.1.mono (by have := HNB.out; have := HX.out.2.2.2.2.2.1; omega)) xo
        have HRA := Lib.hid hra
        have hbmA : BM < wA.heap.size := lt_of_block HX.out.2.1.mb
        have hpo := HX.out.2.2.2.1.outP_all xo hp1 hnd1 hm1
        have H4 := Lib.hid (And.intro hpm4 (And.intro hsd (And.intro hrow1 (And.intro hln1 (And.intro hbmA hpo)))))
        clear hst hsd hpm4 hbx4 hra HFR hp1 hnd1 hm1 hrow1 hnf1 hln1 hbmA hpo
        go_wp2_with (first | (refine wpList_load_row rfl _ _ rfl BM rfl _ _ (0, 0) _ H4.out.1.mb Try.underlying51 rfl infoT ?_) | fail)
        clear z1
        refine HRA.out.mono ?_
        rintro e w5 ⟨v', X', rv, lo, rfl, hr5, ht5, hlo, hrow5, hb5, hl5, hq5⟩
        rw [H4.out.2.2.2.2.2] at hlo
        subst hlo
        obtain ⟨ra, rc, rfl, -, -⟩ := ht5.row.form
        obtain ⟨rn, hrn⟩ : ∃ rn, X'.length = rn := ⟨_, rfl⟩
        rw [hrn] at ht5 ⊢
        obtain ⟨fa, fc, rfl⟩ := ownsRow_form hrow5
        have hpm5 := H4.out.1.below hb5
        have hsd5 := H4.out.2.1.below hb5
        obtain ⟨B8, hB8⟩ : ∃ B8, w5.heap.size = B8 := ⟨_, rfl⟩
        obtain ⟨w6, hw6⟩ : ∃ w6, w5.alloc (.cells #[.slice none 0 0] 51) = w6 := ⟨_, rfl⟩
        have k6 : w6.heap[B8]? = some (.cells #[.slice none 0 0] 51 (0, 0)) := by rw [← hw6, ← hB8]; exact heap_alloc_new w5 _
        have hb6 : Below w5.heap.size w5 w6 := by rw [← hw6]; exact (Below.refl _ _).alloc (Nat.le_refl _) _
        obtain ⟨w7, hw7⟩ : ∃ w7, w6.setRow B8 #[.slice ra rn rc] = w7 := ⟨_, rfl⟩
        have k7 : w7.heap[B8]? = some (.cells #[.slice ra rn rc] 51 (0, 0)) := by rw [← hw7]; exact setRow_heap w6 _ _ _ _ _ k6
        have hb7 : Below w5.heap.size w5 w7 := ⟨by rw [← hw7]; exact hb6.os, by rw [← hw7]; exact hb6.tape, by rw [← hw7]; exact hb6.output, by rw [← hw7, setRow_size]; exact hb6.size, fun j hj => by rw [← hw7, setRow_otherL _ _ _ _ (by omega)]; exact hb6.block j hj⟩
        have hpm7 := hpm5.below hb7
        have hsd7 := hsd5.below hb7
        obtain ⟨w8, hw8⟩ : ∃ w8, w7.setRow BM #[.slice ra rn rc] = w8 := ⟨_, rfl⟩
        have hpm8 := PlM.set hpm7.mb hpm7.nb (ht5.below hb7)
        have hsd8 := hsd7.box hpm7.nb HT.out.2.2 #[.slice ra rn rc]
        rw [hw8] at hpm8 hsd8
        have ho8 : ∀ k, k ≠ BM → w8.heap[k]? = w7.heap[k]? := fun k hk => by rw [← hw8]; exact setRow_otherL _ _ _ _ hk
        have hbm4 : BM < w4.heap.size := lt_of_block H4.out.1.mb
        have hra8 := rowU_keep H4.out.2.2.1 (fun k e => by
          have h9 := H4.out.2.2.1.lt k e
          have h8 := H4.out.2.2.2.2.1
          rw [ho8 k (by omega), hb7.block k (Nat.lt_of_lt_of_le h9.2 hb5.size)]
          exact hb5.block k h9.2)
        have hrb8 := rowU_keep hrow5 (fun k e => by
          have h9 := hrow5.lt k e
          rw [ho8 k (by omega)]
          exact hb7.block k h9.2)
        have hnu := numbers_rows hra8 hrb8 (by have := H4.out.2.2.2.1; have := HNB.out; have := HX.out.2.2.2.2.2.1; omega)
        obtain ⟨wn, hwn⟩ : ∃ wn, w8 = wn := ⟨_, rfl⟩
        have HS0 : Hid (Sd w1 w8 T t' (A.freed xo) (i + 1) ∧ PlM w8 t' BM (.slice ra rn rc) X' ∧ RelX X' (A.freed xo) ∧ XSz X' (i + 1)) := ⟨hsd8.mono (Nat.le_succ _), hpm8, hr5, ⟨by have := HX.out.2.2.2.2.1.ln; omega, by have := HX.out.2.2.2.2.1.tt; omega⟩⟩
        have HK := Lib.hid (And.intro k6 (And.intro k7 hpm7.mb))
        have HNU := Lib.hid hnu
        clear hr5 ht5 hb5 hl5 hq5 hrn hpm5 hsd5 k6 hb6 k7 hb7 hpm7 hsd7 hpm8 hsd8 HRA H4 hrow5 ho8 hbm4 hra8 hrb8 hnu hwn
        go_wp2_with (first | (refine wpList_store_row rfl _ _ _ rfl B8 _ rfl rfl _ _ HK.out.1 infoT rfl (by simp [Value.oneCell']) ?_; rw [hw7]) | (refine wpList_load_row rfl _ _ rfl B8 rfl _ _ (0, 0) _ HK.out.2.1 Try.underlying51 rfl infoT ?_) | (refine wpList_store_row rfl _ _ _ rfl BM _ rfl rfl _ _ HK.out.2.2 infoT rfl (by simp [Value.oneCell']) ?_; rw [hw8]) | fail)
        refine HNU.out.mono ?_
        rintro e wm ⟨rfl, hbm⟩
        have HS := Lib.hid (And.intro (HS0.out.1.below hbm) (And.intro (HS0.out.2.1.below hbm) HS0.out.2.2))
        clear hbm HNU HK hw6 hw7 hw8 hB8
        have z8 : wm.cell? ⟨BM, 0, none⟩ = some (.slice ra rn rc) := cell_of_row wm BM 0 _ _ _ HS.out.2.1.mb
        have hlk := looks_true (F := plF t' BM) (.slice (some ⟨g, off, none⟩) n vc) (.slice ra rn rc) X' l HS.out.1 (by have := HNB.out; have := HX.out.2.2.2.2.2.1; omega) HS.out.2.1.mt HS.out.2.2.1 (HS.out.2.2.2.mono (by have := HNB.out; have := HX.out.2.2.2.2.2.1; omega)) (by have h9 := HV.out.1.below (HB1.out.trans (HS.out.1.bl.mono HB1.out.size)); rw [HN.out] at h9; exact h9) (by have := HV.out.2; omega)
        have HLK := Lib.hid hlk
        clear hlk
        go_wp2_with fail
        all_goals first
          | (refine HLK.out.mono ?_
             rintro e w9 ⟨rfl, hb9⟩
             have H9 := Lib.hid (And.intro (HS.out.1.below hb9) (And.intro (HS.out.2.1.below hb9) HS.out.2.2))
             clear hb9 z8
             go_wp2
             go_roundw
             case rel => exact ⟨i + 1, t', _, ra, rn, rc, X', by rw [HWJ.out], HX.out.2.2.2.2.2.1, H9.out⟩
             case measure => exact meas_up HWJ.out HX.out.2.2.2.2.2.1)
          | (go_roundw
             case rel => exact ⟨i + 1, t', _, ra, rn, rc, X', by rw [HWJ.out], HX.out.2.2.2.2.2.1, HS.out⟩
             case measure => exact meas_up HWJ.out HX.out.2.2.2.2.2.1)
    · have hii : ¬ (i : Int) < (n : Int) := by omega
      have hlk := looks_true (F := plF t BM) (.slice va n vc) (.slice ma mn mc) X l hat (by have := HNB.out; omega) hpm.mt hrel2 (hsz.mono (by have := HNB.out; omega)) (by have h9 := HV.out.1.below hb; rw [HN.out] at h9; exact h9) (by have := HV.out.2; omega)
      have HLK := Lib.hid hlk
      have HM := Lib.hid (And.intro hpm.mb hb)
      clear hlk hat hpm hrel2 hsz hlt hin hb
      go_wp2_with (first | (refine wpList_load_row rfl _ _ rfl BM rfl _ _ (0, 0) _ HM.out.1 Try.underlying51 rfl infoT ?_) | fail)
      refine HLK.out.mono ?_
      rintro e w9 ⟨rfl, hb9⟩
      have HF := Lib.hid (HM.out.2.trans (hb9.mono HM.out.2.size))
      clear hb9 HLK HM
      go_wp2
      go_ret
      exact ⟨rfl, HF.out⟩
end Mun
