/- PoolTells at its start. -/
import Derived.Test.YtjfepmohoijalaaGreatMgX
import Derived.Test.YtjfepmohoijalaaGreatMgS
import Derived.Test.YtjfepmohoijalaaGreatDiskX
import Derived.Deep.CutBlock
set_option maxRecDepth 100000
set_option linter.unusedVariables false
set_option linter.unusedSimpArgs false
namespace Mun
open Go Go.RowKit
open Go.Proofs

theorem PL.grow {w w' : World} {D L Pb : Nat} {s : PX} {x : PZ} (h : PL w D L Pb s x) (hz : x.Z = NoF) (hb : Below w.heap.size w w') (Z' : Foot) (hZ : ∀ k, Z' k → w.heap.size ≤ k ∧ k < w'.heap.size) : PL w' D L Pb s { x with Z := Z' } := by
  refine ⟨h.disk.grow hb (fun k hk => ?_), h.rep.keep (fun k hk _ => hb.block k hk) (fun k hk h1 => ?_), h.mem.keep (fun k hk => hb.block k (h.mem.lt k hk)), h.apart⟩
  · rcases hk with hk | hk | hk
    · exact .inl (.inl hk)
    · exact .inl (.inr (.inl hk))
    · exact .inr (hZ k hk)
  · rcases h1 with (h1 | h1 | h1) | h1
    · exact .inl (.inl h1)
    · exact .inl (.inr (.inl h1))
    · have := hZ k h1; omega
    · exact .inr h1

theorem TI.new (n k : Nat) : TI n ⟨DM.new n 4096, lm0, PM.new k⟩ (List.replicate n page0) := by
  have hf : ∀ f ∈ (PM.new k).fr, f = FM.none := fun f hf => (List.mem_replicate.1 hf).2
  have hfi : ∀ (i : Nat) (f : FM), (PM.new k).fr[i]? = some f → f = FM.none := fun i f h => hf f (List.mem_of_getElem? h)
  have hlast : ∀ j, j < n → (List.replicate n page0)[j]? = some page0 := fun j hj => by rw [List.getElem?_replicate, if_pos hj]
  have hpg : ∀ j, (DM.new n 4096).page j = page0 := fun j => new_page n 4096 j
  refine ⟨rfl, rfl, by simp [DM.new], rfl, by simp, rfl, Nat.le_refl _, fun i j f g hf' hg e h0 => ?_, fun f hf' => ?_, fun f hf' h0 => ?_, fun f hf' hc => ?_, fun f hf' h0 hc => ?_, fun j hj hn => ?_, fun b hb => ?_, fun j hj => ?_, fun j hj => .inl (hpg j), ?_, fun p hp => ?_, fun j hj hn => ?_, fun j r hd => ?_⟩
  · rw [hfi i f hf'] at h0
    exact absurd h0 (by decide)
  · rw [hf f hf']; show (-1 : Int) < n; omega
  · rw [hf f hf'] at h0; exact absurd h0 (by decide)
  · rw [hf f hf'] at hc; cases hc
  · rw [hf f hf'] at h0; exact absurd h0 (by decide)
  · show _ = some ((DM.new n 4096).page j)
    rw [hpg, hlast j hj]
  · rw [(List.mem_replicate.1 hb).2]; exact ⟨page0_chk, page0_length⟩
  · show checkP ((DM.new n 4096).page j) = 0
    rw [hpg]; exact page0_chk
  · exact List.Pairwise.nil
  · cases hp
  · refine ⟨?_, fun p hp => by cases hp⟩
    rw [hlast j hj]
    show some page0 = some ((List.replicate n page0).getD j page0)
    rw [List.getD_eq_getElem?_getD, hlast j hj]
    rfl
  · cases hd

/-- the law's row while it is made -/
structure RowM (w4 wr : World) (Lr n k : Nat) (vals : List Value) : Prop where
  row : wr.heap[Lr]? = some (.cells vals.toArray 41 (0, 0))
  vlen : vals.length = n
  rd : ∀ j, j < k → ∃ u, vals[j]? = some u ∧ RdB (OldF w4.heap.size) wr u page0
  sl : ∀ j, k ≤ j → j < n → vals[j]? = some (.slice none 0 0)
  below : Below Lr w4 wr

theorem RowM.step {w4 wr : World} {Lr n k : Nat} {vals : List Value} (h : RowM w4 wr Lr n k vals) (hk : k < n) (hL : Lr < w4.heap.size) :
    RowM w4 ((wr.alloc (bobj page0)).setCell ⟨Lr, k, none⟩ (.slice (some ⟨wr.heap.size, 0, none⟩) 512 512)) Lr n (k + 1) (vals.set k (.slice (some ⟨wr.heap.size, 0, none⟩) 512 512)) := by
  have hsz := h.below.size
  refine ⟨?_, by rw [List.length_set]; exact h.vlen, fun j hj => ?_, fun j hj hjn => ?_, (h.below.alloc (by omega) _).setCell (Nat.le_refl _) _⟩
  · have h1 : (wr.alloc (bobj page0)).heap[Lr]? = some (.cells vals.toArray 41 (0, 0)) := (((Below.refl wr.heap.size wr).alloc (Nat.le_refl _) (bobj page0)).block Lr (by omega)).trans h.row
    refine (setCell_blk h1 _).trans ?_
    simp
  · by_cases hjk : k = j
    · subst hjk
      refine ⟨_, List.getElem?_set_self (by rw [h.vlen]; exact hk), ?_⟩
      have h1 := bobj_rd (F := OldF w4.heap.size) wr page0 512 page0_length.symm (by rw [page0_length]; unfold maxLen; omega) (fun e => by have e : wr.heap.size < w4.heap.size := e; omega)
      rw [page0_length] at h1
      exact h1.set _ _ hL
    · obtain ⟨u, h1, h2⟩ := h.rd j (by omega)
      exact ⟨u, by rw [List.getElem?_set_ne hjk]; exact h1, (h2.alloc _).set _ _ hL⟩
  · rw [List.getElem?_set_ne (by omega)]
    exact h.sl j (by omega) hjn

theorem ents_get : ∀ (l : List (Int × (Nat × Bool))) (z : Nat) {y : Int} {r : Nat × Bool}, l[z]? = some (y, r) → (ents l)[z * 2]? = some (.int .i64 y)
  | [], z, y, r, h => by simp at h
  | p :: ps, 0, y, r, h => by
    simp only [List.getElem?_cons_zero, Option.some.injEq] at h
    subst h
    rfl
  | p :: ps, z + 1, y, r, h => by
    simp only [List.getElem?_cons_succ] at h
    have := ents_get ps z h
    show (List.flatMap _ (p :: ps))[(z + 1) * 2]? = _
    rw [List.flatMap_cons, List.getElem?_append_right (by simp; omega)]
    show (ents ps)[(z + 1) * 2 - 2]? = _
    rw [show (z + 1) * 2 - 2 = z * 2 by omega]
    exact this

theorem dt_len_from : ∀ (dt : List (Int × (Nat × Bool))) (a : Int) (n : Nat), DtS dt → (∀ p ∈ dt, a ≤ p.1 ∧ p.1 < n) → (dt.length : Int) ≤ max 0 (n - a)
  | [], a, n, _, _ => by simp; omega
  | p :: ps, a, n, h, hp => by
    obtain ⟨h1, h2⟩ := h.cons
    have h3 := hp p (List.mem_cons_self ..)
    have h4 := dt_len_from ps (p.1 + 1) n h2 (fun q hq => ⟨by have := h1 q hq; omega, (hp q (List.mem_cons_of_mem _ hq)).2⟩)
    simp only [List.length_cons]
    omega
theorem dt_len {dt : List (Int × (Nat × Bool))} {n : Nat} (h : DtS dt) (hp : ∀ p ∈ dt, 0 ≤ p.1 ∧ p.1 < n) : dt.length ≤ n := by
  have := dt_len_from dt 0 n h hp
  omega

theorem info_deed : (Tryz.prog.info? 43).map (·.size) = some 3 := by kernel_rfl

set_option maxHeartbeats 4000000 in
theorem tells_law (w : World) (pgs fr : Int) (lv cv : Value) (ds : List Deed) (cs : Bytes) (hv : DeedsAt NoF w lv ds) (hcv : RdB NoF w cv cs) (hxl : ds.length ≤ 3518437208882) :
    Calls Tryz.prog 5 #[.int .i64 pgs, .int .i64 fr, lv, cv] w fun e w' => e = .returned (.bool true) ∧ Below w.heap.size w w' := by
  obtain ⟨la, ln, lc, rfl, hln, hlc⟩ : ∃ la ln lc, lv = .slice la ln lc ∧ ds.length = ln ∧ ln ≤ lc := by
    obtain ⟨a, c, e, h1, h2⟩ := hv.row.form
    exact ⟨a, _, c, e, rfl, h1⟩
  obtain ⟨ca, cn, cc, rfl, -⟩ := hcv.formN
  obtain ⟨c, hc, hc8⟩ := and_7 pgs
  obtain ⟨c', hc', hc4⟩ := and_3 fr
  have haw := awake8 w
  have HAW := Lib.hid haw
  have HV := Lib.hid (And.intro hv (And.intro hln (And.intro hxl hcv)))
  clear hv haw hxl hln hcv
  go_enter Tryz.func5, Tryz.ntmps5
  go_wp2_with fail
  refine HAW.out.mono ?_
  rintro e w1 ⟨rfl, hb1⟩
  obtain ⟨n, hn⟩ : ∃ n, 1 + c = n := ⟨_, rfl⟩
  obtain ⟨k, hk⟩ : ∃ k, 1 + c' = k := ⟨_, rfl⟩
  have hnc : 1 + (c : Int) = (n : Int) := by omega
  have hkc : 1 + (c' : Int) = (k : Int) := by omega
  have hn8 : 1 ≤ n ∧ n ≤ 8 := by omega
  have hk4 : 1 ≤ k ∧ k ≤ 4 := by omega
  have hbe : Calls Tryz.prog 7 #[.int .i64 n, .int .i64 4096, .int .i64 k] w1 (BenchL w1 n 4096 k) := bench_pl w1 n 4096 k hn8.1 (by omega) (by decide) hk4.1 (by omega)
  have HBE := Lib.hid hbe
  have HB1 := Lib.hid hb1
  have HNK := Lib.hid (And.intro hn8 hk4)
  clear hbe hb1 HAW
  go_wp2_with fail
  refine HBE.out.mono ?_
  rintro e w2 ⟨D, L, Pb, g, x, rfl, ⟨-, hz⟩, hpl, hb2, haf⟩
  obtain ⟨w3, hw3⟩ : ∃ w3, w2.alloc (.cells #[.pointer (some ⟨D, 0, none⟩), .pointer (some ⟨L, 0, none⟩), .pointer (some ⟨Pb, 0, none⟩)] 28) = w3 := ⟨_, rfl⟩
  have hb23 : Below w2.heap.size w2 w3 := by rw [← hw3]; exact (Below.refl _ _).alloc (Nat.le_refl _) _
  obtain ⟨Bx, hBx⟩ : ∃ Bx, w2.heap.size = Bx := ⟨_, rfl⟩
  have kB : w3.heap[Bx]? = some (.cells (bcells D L Pb) 28 (0, 0)) := by rw [← hw3, ← hBx]; exact heap_alloc_new w2 _
  have hmk := make_slots n (by omega) w3
  obtain ⟨Lr, hLr⟩ : ∃ Lr, w3.heap.size = Lr := ⟨_, rfl⟩
  obtain ⟨w4, hw4⟩ : ∃ w4, w3.alloc (.cells (List.replicate n (Value.slice none 0 0)).toArray 41) = w4 := ⟨_, rfl⟩
  rw [hLr, hw4] at hmk
  have hb34 : Below Lr w3 w4 := by rw [← hw4, ← hLr]; exact (Below.refl _ _).alloc (Nat.le_refl _) _
  have kL : w4.heap[Lr]? = some (.cells (List.replicate n (Value.slice none 0 0)).toArray 41 (0, 0)) := by rw [← hw4, ← hLr]; exact heap_alloc_new w3 _
  have hm0 : RowM w4 w4 Lr n 0 (List.replicate n (Value.slice none 0 0)) := ⟨kL, by simp, fun j hj => absurd hj (by omega), fun j _ hj => by rw [List.getElem?_replicate, if_pos hj], Below.refl _ _⟩
  have HM0 := Lib.hid hm0
  have HZ := Lib.hid (And.intro hz (And.intro hpl (And.intro hb2 (And.intro haf (And.intro hb23 (And.intro hBx (And.intro kB (And.intro hLr hb34))))))))
  have hn0 : (0 : Int) ≤ (n : Int) := by omega
  have hnn8 : (n : Int) ≤ 8 := by omega
  clear hz hpl hb2 haf hb23 kB hb34 kL hm0 hn8 hk4 HBE
  go_wp2_with (first | rw [hBx] | rw [hw3])
  clear hmk hw3 hw4
  go_loopw [13] (fun j wr => ∃ (q : Nat) (vals : List Value), j = .int .i64 q ∧ q ≤ n ∧ RowM w4 wr Lr n q vals) (fun j _ => n - (RowKit.intOf j).toNat)
  case atStart => exact ⟨0, _, rfl, Nat.zero_le _, HM0.out⟩
  case round =>
    obtain ⟨q, vals, rfl, hq, hrow⟩ := hrel
    have hq0 : (0 : Int) ≤ (q : Int) := by omega
    rcases Nat.lt_or_eq_of_le hq with hlt | heq
    · have hL4 : Lr < w4.heap.size := by
        obtain ⟨-, -, -, -, -, -, -, h9, h8⟩ := HZ.out
        have h7 := hrow.row
        have := HM0.out.row
        exact (Array.getElem?_eq_some_iff.1 this).1
      have hstep := hrow.step hlt hL4
      have hmb : (Instr.makeSlice 41 (.int .i64 512) (.int .i64 512)).run Tryz.prog wr = .ok (.slice (some ⟨wr.heap.size, 0, none⟩) 512 512) (wr.alloc (bobj page0)) := make_bytes 512 512 (Nat.le_refl _) (by decide) wr
      obtain ⟨g5, hg5⟩ : ∃ g5, wr.heap.size = g5 := ⟨_, rfl⟩
      obtain ⟨w5, hw5⟩ : ∃ w5, wr.alloc (bobj page0) = w5 := ⟨_, rfl⟩
      rw [hg5, hw5] at hmb hstep
      have hr5 : w5.heap[Lr]? = some (.cells vals.toArray 41 (0, 0)) := by rw [← hw5]; exact (((Below.refl wr.heap.size wr).alloc (Nat.le_refl _) (bobj page0)).block Lr (by have := hrow.below.size; omega)).trans hrow.row
      have cL : w5.cell? ⟨Lr, q, none⟩ = some (.slice none 0 0) := by rw [cell_of_row w5 Lr q _ _ _ hr5]; simpa using hrow.sl q (Nat.le_refl _) hlt
      have zL : w5.frozen? ⟨Lr, q, none⟩ = false := by simp [World.frozen?, hr5]
      obtain ⟨w6, hw6⟩ : ∃ w6, w5.setCell ⟨Lr, q, none⟩ (.slice (some ⟨g5, 0, none⟩) 512 512) = w6 := ⟨_, rfl⟩
      rw [hw6] at hstep
      have HS := Lib.hid (And.intro hstep hlt)
      have hqi : (q : Int) < (n : Int) := by omega
      clear hrow hL4 hstep hr5 hlt hq hw5 hg5
      go_wp2
      go_roundw
      case rel => exact ⟨q + 1, _, rfl, by have := HS.out.2; omega, HS.out.1⟩
      case measure => have := HS.out.2; simp [RowKit.intOf]; omega
    · have heq := heq.symm
      subst heq
      have hts : TS w1 wr D L Pb Bx Lr n 0 ⟨DM.new n 4096, lm0, PM.new k⟩ { x with Z := OF Bx Lr } (List.replicate n page0) vals := by
        obtain ⟨hz, hpl, hb2, haf, hb23, hBx, kB, hLr, hb34⟩ := HZ.out
        have hs3 := hb23.size
        have hs4 := hb34.size
        have hB3 := (Array.getElem?_eq_some_iff.1 kB).1
        have hL4 := (Array.getElem?_eq_some_iff.1 HM0.out.row).1
        have hb3r := hb34.trans hrow.below
        have hb2r : Below w2.heap.size w2 wr := hb23.trans (hb3r.mono (by omega))
        have htf : ∀ q, PZ.tf { x with Z := OF Bx Lr } Pb L q → w1.heap.size ≤ q ∧ q < w2.heap.size := fun q hq => by
          have h9 := x.tf_af Pb L q hq
          exact ⟨haf q h9, hpl.lt q h9⟩
        refine ⟨hpl.grow hz hb2r _ (fun q hq => ?_), TI.new n k, (hb3r.block Bx (by omega)).trans kB, hrow.row, fun j b hj => ?_, hrow.vlen, hb2.trans (hb2r.mono hb2.size), fun q hq => (htf q hq).1, rfl, by have := hb2.size; omega, by have := hb2.size; omega, fun hq => ?_, fun hq => ?_, ?_, ?_, HNK.out.1⟩
        · have := hrow.below.size
          rcases hq with rfl | rfl <;> omega
        · rw [List.getElem?_replicate] at hj
          split at hj
          · rename_i hjn
            injection hj with hj
            subst hj
            obtain ⟨u, h1, h2⟩ := hrow.rd j hjn
            refine ⟨u, h1, h2.mono (fun q _ hq => ?_)⟩
            show q < w4.heap.size
            rcases hq with (hq | hq | hq) | hq
            · have := (htf q (.inl (.inl hq))).2; omega
            · have := (htf q (.inl (.inr hq))).2; omega
            · rcases hq with rfl | rfl
              · omega
              · exact hL4
            · have := (htf q (.inr hq)).2; omega
          · cases hj
        · have := (htf _ hq).2; omega
        · have := (htf _ hq).2; omega
        · show 0 + 2 * (List.replicate k FM.none).countP (·.chg) ≤ _
          rw [List.countP_replicate]
          simp [FM.none]
        · show 1 ≤ (List.replicate k FM.none).length ∧ (List.replicate k FM.none).length ≤ 4
          rw [List.length_replicate]
          exact HNK.out.2
      have hp0 : Pin0 ⟨DM.new n 4096, lm0, PM.new k⟩ := fun f hf => by rw [(List.mem_replicate.1 hf).2]; rfl
      have HTS := Lib.hid (And.intro hts hp0)
      clear hrow hq hts hp0
      go_wp2
      go_loopw [8, 14, 15, 16, 17, 18, 19, 20, 21, 22, 23, 24, 25, 26, 27, 28, 29, 30, 83, 143, 155] (fun _ i _ _ _ _ _ _ _ _ _ _ _ _ _ _ _ _ _ _ _ wr => ∃ (j : Nat) (s : PX) (x : PZ) (last : List Bytes) (vals : List Value), j ≤ ln ∧ i = .int .i64 (j : Int) ∧ TS w1 wr D L Pb Bx Lr n j s x last vals ∧ Pin0 s)
        (fun _ i _ _ _ _ _ _ _ _ _ _ _ _ _ _ _ _ _ _ _ _ => ln - (RowKit.intOf i).toNat)
      case atStart => exact ⟨0, _, _, _, _, Nat.zero_le _, rfl, HTS.out.1, HTS.out.2⟩
      case round =>
        obtain ⟨j, s, xz, last, vals, hj, rfl, hts, hp0⟩ := hrel
        rcases Nat.lt_or_eq_of_le hj with hjl | rfl
        · obtain ⟨hdv, hdl, hxl, hcv⟩ := HV.out
          obtain ⟨dd, hdd⟩ : ∃ dd, ds[j]? = some dd := ⟨_, List.getElem?_eq_getElem (by omega)⟩
          have hbw : Below w.heap.size w wr := HB1.out.trans (hts.below.mono HB1.out.size)
          have hdm := List.mem_of_getElem? hdd
          have hdj : ds[j]'(by omega) = dd := by
            have h9 := List.getElem?_eq_getElem (l := ds) (i := j) (by omega)
            rw [hdd] at h9
            injection h9 with h9
            exact h9.symm
          obtain ⟨lg, lo, lc', e, -, -, ce0, ce1, ce2⟩ := (hdv.keep (fun k hk _ => hbw.block k hk) (fun _ _ h => h)).at_ j (by omega)
          injection e with e1 e2 e3
          subst e1 e3
          clear e2
          rw [hdj] at ce0 ce1 ce2
          have hrb := (hdv.rd dd hdm).below hbw
          have hlo := hdv.lo dd hdm
          have hhi := hdv.hi dd hdm
          obtain ⟨ba, bn, bc, hbv, -⟩ := hrb.formN
          obtain ⟨dop, hdop⟩ : ∃ dop, dd.op = dop := ⟨_, rfl⟩
          obtain ⟨dn, hdn⟩ : ∃ dn, dd.n = dn := ⟨_, rfl⟩
          rw [hdop] at ce0
          rw [hdn] at ce1 hlo hhi
          rw [hbv] at ce2
          have j1 : (j : Int) < (ln : Int) := by omega
          have j0 : (0 : Int) ≤ (j : Int) := by omega
          obtain ⟨m0, hm0⟩ : ∃ m0 : Nat, (if dn < 0 then -(dn + 1) else dn) = (m0 : Int) := by
            split
            · exact ⟨(-(dn + 1)).toNat, by omega⟩
            · exact ⟨dn.toNat, by omega⟩
          obtain ⟨kk, hkk⟩ : ∃ kk : Nat, m0 % n = kk := ⟨_, rfl⟩
          have hkn : kk < n := by rw [← hkk]; exact Nat.mod_lt _ (by omega)
          have hkt : (m0 : Int).tmod (n : Int) = (kk : Int) := by rw [Int.tmod_eq_emod_of_nonneg (by omega), ← hkk]; omega
          obtain ⟨Dx, hDx⟩ : ∃ Dx, wr.heap.size = Dx := ⟨_, rfl⟩
          obtain ⟨w5, hw5⟩ : ∃ w5, wr.alloc (.cells #[.int .i64 0, .int .i64 0, .slice none 0 0] 43) = w5 := ⟨_, rfl⟩
          have kd5 : w5.heap[Dx]? = some (.cells #[.int .i64 0, .int .i64 0, .slice none 0 0] 43 (0, 0)) := by rw [← hw5, ← hDx]; exact heap_alloc_new wr _
          obtain ⟨w6, hw6⟩ : ∃ w6, w5.setRow Dx #[.int .i64 dop, .int .i64 dn, .slice ba bn bc] = w6 := ⟨_, rfl⟩
          have kd6 : w6.heap[Dx]? = some (.cells #[.int .i64 dop, .int .i64 dn, .slice ba bn bc] 43 (0, 0)) := by rw [← hw6]; exact setRow_heap _ _ _ _ _ _ kd5
          have hb6 : Below wr.heap.size wr w6 := by rw [← hw6, ← hw5]; exact below_setRow ((Below.refl _ _).alloc (Nat.le_refl _) _) (Nat.le_of_eq hDx) _
          have q60 : w6.cell? ⟨Dx, 0, none⟩ = some (.int .i64 dop) := cell_of_row w6 Dx 0 _ _ _ kd6
          have q61 : w6.cell? ⟨Dx, 1, none⟩ = some (.int .i64 dn) := cell_of_row w6 Dx 1 _ _ _ kd6
          have KD5 := Lib.hid kd5
          have htfD : ¬ xz.tf Pb L Dx := fun e => by have := hts.pl.lt Dx (xz.tf_af Pb L Dx e); omega
          have hrb0 : ∀ W, Below w.heap.size w W → RdB NoF W (.slice ba bn bc) dd.b := fun W hW => by rw [← hbv]; exact (hdv.rd dd hdm).below hW
          have HRB0 := Lib.hid hrb0
          have HD := Lib.hid (And.intro (hts.more hb6) (And.intro hp0 (And.intro kd6 (And.intro (hrb.below hb6) (And.intro hjl (And.intro hkn htfD))))))
          have hkn' : (kk : Int) < (n : Int) := by omega
          have hkn0 : (0 : Int) ≤ (kk : Int) := by omega
          clear hts hp0 hdv hdl hxl hcv hdd hbw hdm hdj htfD hrb0 hrb hbv hdop hdn kd5 kd6 hb6 hjl hkn hj
          go_upto_if 70 with (first | (refine wpList_store_row rfl _ _ _ rfl Dx _ rfl rfl _ _ KD5.out info_deed rfl (by simp [Value.oneCell']) ?_; rw [hw6]) | rw [hDx] | rw [hw5])
          have HKT := Lib.hid hkt
          clear hkt ce0 ce1 ce2
          go_cut [16] (fun a wx => a = .int .i64 (m0 : Int) ∧ wx = w6)
          case first =>
            as_aux_lemma =>
              by_cases hneg : dn < 0
              · rw [if_pos hneg] at hm0
                have HM := Lib.hid hm0
                clear hm0
                go_wp2
                go_meet
                exact ⟨by rw [← HM.out], rfl⟩
              · rw [if_neg hneg] at hm0
                have HM := Lib.hid hm0
                clear hm0
                go_wp2
                go_meet
                exact ⟨by rw [← HM.out], rfl⟩
          case rest =>
            obtain ⟨rfl, rfl⟩ := hcut
            have hkt := HKT.out
            go_upto_block 4 with (fail)
            go_cut [] (fun wx => ∃ (s' : PX) (x' : PZ) (last' : List Bytes) (vals' : List Value), TS w1 wx D L Pb Bx Lr n (j + 1) s' x' last' vals' ∧ Pin0 s')
            case first =>
              as_aux_lemma =>
                obtain ⟨hts, hp0, kd6, hrb, hjl, hkn, htfD⟩ := HD.out
                have hjl3 : j ≤ 3518437208882 := by have := HV.out.2.1; have := HV.out.2.2.1; omega
                have HJ3 := Lib.hid hjl3
                have HKN := Lib.hid hkn
                have hRB : ∀ W, Below w1.heap.size w1 W → RdB NoF W (.slice ba bn bc) dd.b := fun W hW => HRB0.out W (HB1.out.trans (hW.mono HB1.out.size))
                have HRB := Lib.hid hRB
                clear hRB hjl
                by_cases hd0 : dop = 0
                · as_aux_lemma =>
                    subst hd0
                    have cB2 := hts.cells.2.2
                    have hpin := pin_T hts hp0 hjl3 kk hkn
                    have HPIN := Lib.hid hpin
                    have hDl : Dx < wc.heap.size := (Array.getElem?_eq_some_iff.1 kd6).1
                    have HK6 := Lib.hid (And.intro kd6 (And.intro hDl (And.intro htfD hts.below)))
                    clear hpin hts hp0 kd6 hrb hDl htfD hjl3 hkn
                    go_wp2_with fail
                    refine HPIN.out.mono ?_
                    rintro e w7 ⟨gp, s7, x7, b7, rfl, hb7, hown7, hts7, hp17, hcg7⟩
                    clear HPIN cB2
                    obtain ⟨kd6, hDl, htfD, -⟩ := HK6.out
                    obtain ⟨hkd7, htfD7⟩ := keepD hDl htfD hcg7
                    have kd7 := hkd7.trans kd6
                    obtain ⟨u7, hu7, hru7⟩ := hts7.rd kk b7 hb7
                    obtain ⟨ua, un, uc, rfl, -⟩ := hru7.formN
                    have cL7 := hts7.cellL hu7
                    have hs1 : ∀ q, (convert 41 9 (.slice (some ⟨gp, 0, none⟩) 512 512)).run Tryz.prog (w7.drewN q) = .ok (.string (strOf b7)) (w7.drewN q) := fun q => str_bytes (RdB.drewN (F := NoF) (OwnB.rd hown7 (fun _ _ => noF _)) q)
                    have hs2 : ∀ q, (convert 41 9 (.slice ua un uc)).run Tryz.prog (w7.drewN q) = .ok (.string (strOf b7)) (w7.drewN q) := fun q => str_bytes (RdB.drewN hru7 q)
                    have q7 : w7.cell? ⟨Dx, 0, none⟩ = some (.int .i64 0) := cell_of_row w7 Dx 0 _ _ _ kd7
                    have HT7 := Lib.hid (And.intro hts7 (And.intro hp17 (And.intro kd7 htfD7)))
                    clear hown7 hts7 hp17 hcg7 kd6 hDl htfD hkd7 htfD7 kd7 hu7 hru7 hb7
                    go_upto_region 27 with (fail)
                    go_quiet (fail)
                    obtain ⟨w8, hw8⟩ : ∃ w8, w7.drewN nq = w8 := ⟨_, rfl⟩
                    have hts8 := HT7.out.1.drewN nq
                    have kd8 : w8.heap[Dx]? = some (.cells #[.int .i64 0, .int .i64 dn, .slice ba bn bc] 43 (0, 0)) := by rw [← hw8]; exact HT7.out.2.2.1
                    rw [hw8] at hts8 ⊢
                    have q8 : w8.cell? ⟨Dx, 0, none⟩ = some (.int .i64 0) := cell_of_row w8 Dx 0 _ _ _ kd8
                    have cB8 := hts8.cells
                    obtain ⟨cB80, cB81, cB82⟩ := cB8
                    clear hs1 hs2 q7 cL7 hw8
                    have hp18 := HT7.out.2.1
                    have cBu := hts8.cells.2.2
                    have hup := unpin_T hts8 kk hp18
                    have HUP := Lib.hid hup
                    clear hup hts8 hp18 kd8 HT7
                    go_wp2_with fail
                    refine HUP.out.mono ?_
                    rintro e w9 ⟨rfl, s9, x9, hts9, hp09⟩
                    have HF := Lib.hid (And.intro (hts9.later (Nat.le_succ j)) hp09)
                    clear hts9 hp09 HUP
                    go_wp2
                    go_meet
                    exact ⟨_, _, _, _, HF.out⟩
                · by_cases hd1 : dop = 1
                  · as_aux_lemma =>
                      subst hd1
                      have cB2 := hts.cells.2.2
                      have hpin := pin_T hts hp0 hjl3 kk hkn
                      have HPIN := Lib.hid hpin
                      have hDl : Dx < wc.heap.size := (Array.getElem?_eq_some_iff.1 kd6).1
                      have HK6 := Lib.hid (And.intro kd6 (And.intro hDl (And.intro htfD hts.below)))
                      clear hpin hts hp0 kd6 hrb hDl htfD hjl3 hkn
                      go_wp2_with fail
                      refine HPIN.out.mono ?_
                      rintro e w7 ⟨gp, s7, x7, b7, rfl, hb7, hown7, hts7, hp17, hcg7⟩
                      clear HPIN cB2
                      obtain ⟨kd6, hDl, htfD, -⟩ := HK6.out
                      obtain ⟨hkd7, htfD7⟩ := keepD hDl htfD hcg7
                      have kd7 := hkd7.trans kd6
                      obtain ⟨u7, hu7, hru7⟩ := hts7.rd kk b7 hb7
                      obtain ⟨ua, un, uc, rfl, -⟩ := hru7.formN
                      have cL7 := hts7.cellL hu7
                      have hs1 : ∀ q, (convert 41 9 (.slice (some ⟨gp, 0, none⟩) 512 512)).run Tryz.prog (w7.drewN q) = .ok (.string (strOf b7)) (w7.drewN q) := fun q => str_bytes (RdB.drewN (F := NoF) (OwnB.rd hown7 (fun _ _ => noF _)) q)
                      have hs2 : ∀ q, (convert 41 9 (.slice ua un uc)).run Tryz.prog (w7.drewN q) = .ok (.string (strOf b7)) (w7.drewN q) := fun q => str_bytes (RdB.drewN hru7 q)
                      have q7 : w7.cell? ⟨Dx, 0, none⟩ = some (.int .i64 1) := cell_of_row w7 Dx 0 _ _ _ kd7
                      have HT7 := Lib.hid (And.intro hts7 (And.intro hp17 (And.intro kd7 htfD7)))
                      clear hown7 hts7 hp17 hcg7 kd6 hDl htfD hkd7 htfD7 kd7 hu7 hru7 hb7
                      go_upto_region 27 with (fail)
                      go_quiet (fail)
                      obtain ⟨w8, hw8⟩ : ∃ w8, w7.drewN nq = w8 := ⟨_, rfl⟩
                      have hts8 := HT7.out.1.drewN nq
                      have kd8 : w8.heap[Dx]? = some (.cells #[.int .i64 1, .int .i64 dn, .slice ba bn bc] 43 (0, 0)) := by rw [← hw8]; exact HT7.out.2.2.1
                      rw [hw8] at hts8 ⊢
                      have q8 : w8.cell? ⟨Dx, 0, none⟩ = some (.int .i64 1) := cell_of_row w8 Dx 0 _ _ _ kd8
                      have cB8 := hts8.cells
                      obtain ⟨cB80, cB81, cB82⟩ := cB8
                      clear hs1 hs2 q7 cL7 hw8
                      have hp18 := HT7.out.2.1
                      have cBu := hts8.cells.2.2
                      have hup := unpin_T hts8 kk hp18
                      have HUP := Lib.hid hup
                      clear hup hts8 hp18 kd8 HT7
                      go_wp2_with fail
                      refine HUP.out.mono ?_
                      rintro e w9 ⟨rfl, s9, x9, hts9, hp09⟩
                      have HF := Lib.hid (And.intro (hts9.later (Nat.le_succ j)) hp09)
                      clear hts9 hp09 HUP
                      go_wp2
                      go_meet
                      exact ⟨_, _, _, _, HF.out⟩
                  · by_cases hd2 : dop = 2
                    · as_aux_lemma =>
                        subst hd2
                        have cB2 := hts.cells.2.2
                        have hpin := pin_T hts hp0 hjl3 kk hkn
                        have HPIN := Lib.hid hpin
                        have hDl : Dx < wc.heap.size := (Array.getElem?_eq_some_iff.1 kd6).1
                        have HK6 := Lib.hid (And.intro kd6 (And.intro hDl (And.intro htfD hts.below)))
                        clear hpin hts hp0 kd6 hrb hDl htfD hjl3 hkn
                        go_wp2_with fail
                        refine HPIN.out.mono ?_
                        rintro e w7 ⟨gp, s7, x7, b7, rfl, hb7, hown7, hts7, hp17, hcg7⟩
                        clear HPIN cB2
                        obtain ⟨kd6, hDl, htfD, -⟩ := HK6.out
                        obtain ⟨hkd7, htfD7⟩ := keepD hDl htfD hcg7
                        have kd7 := hkd7.trans kd6
                        obtain ⟨u7, hu7, hru7⟩ := hts7.rd kk b7 hb7
                        obtain ⟨ua, un, uc, rfl, -⟩ := hru7.formN
                        have cL7 := hts7.cellL hu7
                        have hs1 : ∀ q, (convert 41 9 (.slice (some ⟨gp, 0, none⟩) 512 512)).run Tryz.prog (w7.drewN q) = .ok (.string (strOf b7)) (w7.drewN q) := fun q => str_bytes (RdB.drewN (F := NoF) (OwnB.rd hown7 (fun _ _ => noF _)) q)
                        have hs2 : ∀ q, (convert 41 9 (.slice ua un uc)).run Tryz.prog (w7.drewN q) = .ok (.string (strOf b7)) (w7.drewN q) := fun q => str_bytes (RdB.drewN hru7 q)
                        have q7 : w7.cell? ⟨Dx, 0, none⟩ = some (.int .i64 2) := cell_of_row w7 Dx 0 _ _ _ kd7
                        have HT7 := Lib.hid (And.intro hts7 (And.intro hp17 (And.intro kd7 htfD7)))
                        clear hown7 hts7 hp17 hcg7 kd6 hDl htfD hkd7 htfD7 kd7 hu7 hru7 hb7
                        go_upto_region 27 with (fail)
                        go_quiet (fail)
                        obtain ⟨w8, hw8⟩ : ∃ w8, w7.drewN nq = w8 := ⟨_, rfl⟩
                        have hts8 := HT7.out.1.drewN nq
                        have kd8 : w8.heap[Dx]? = some (.cells #[.int .i64 2, .int .i64 dn, .slice ba bn bc] 43 (0, 0)) := by rw [← hw8]; exact HT7.out.2.2.1
                        rw [hw8] at hts8 ⊢
                        have q8 : w8.cell? ⟨Dx, 0, none⟩ = some (.int .i64 2) := cell_of_row w8 Dx 0 _ _ _ kd8
                        have cB8 := hts8.cells
                        obtain ⟨cB80, cB81, cB82⟩ := cB8
                        clear hs1 hs2 q7 cL7 hw8
                        have q82 : w8.cell? ⟨Dx, 2, none⟩ = some (.slice ba bn bc) := cell_of_row w8 Dx 2 _ _ _ kd8
                        have happ := app_T hts8 HJ3.out kk HT7.out.2.1
                        have HAPP := Lib.hid happ
                        have HD8 := Lib.hid (And.intro kd8 HT7.out.2.2.2)
                        clear happ hts8 kd8
                        go_wp2_with fail
                        refine HAPP.out.mono ?_
                        rintro e w9 ⟨l9, k9, s9, x9, rfl, hts9, hp19, hz9, hl64, hcg9⟩
                        obtain ⟨kd8, htf8⟩ := HD8.out
                        obtain ⟨hkd9, htfD9⟩ := keepD (Array.getElem?_eq_some_iff.1 kd8).1 htf8 hcg9
                        have kd9 := hkd9.trans kd8
                        have q92 : w9.cell? ⟨Dx, 2, none⟩ = some (.slice ba bn bc) := cell_of_row w9 Dx 2 _ _ _ kd9
                        have cB92 := hts9.cells.2.2
                        have HT9 := Lib.hid (And.intro hts9 (And.intro hp19 (And.intro hz9 (And.intro hl64 (And.intro kd9 htfD9)))))
                        clear hts9 hp19 hz9 hl64 hcg9 kd8 htf8 hkd9 htfD9 kd9 HAPP HD8 q8 q82 cB80 cB81 cB82
                        by_cases hk9 : k9 = 0
                        · subst hk9
                          have hrb9 : RdB NoF w9 (.slice ba bn bc) dd.b := HRB.out w9 HT9.out.1.below
                          have hgo := r5good w9 _ _ hrb9
                          by_cases hgd : GoodP dd.b
                          · rw [goodB_true hgd] at hgo
                            have HGO := Lib.hid hgo
                            clear hgo hrb9
                            go_wp2_with fail
                            refine HGO.out.mono ?_
                            rintro e w10 ⟨rfl, hb10⟩
                            obtain ⟨hts9, hp19, hz9, hl64, kd9, htfD9⟩ := HT9.out
                            have hts10 := hts9.more hb10
                            have kd10 := (hb10.block _ (Array.getElem?_eq_some_iff.1 kd9).1).trans kd9
                            have q102 : w10.cell? ⟨Dx, 2, none⟩ = some (.slice ba bn bc) := cell_of_row w10 Dx 2 _ _ _ kd10
                            have cB102 := hts10.cells.2.2
                            have hrb10 : RdB NoF w10 (.slice ba bn bc) dd.b := HRB.out w10 hts10.below
                            have hput := put_T hts10 hp19 _ dd.b hrb10 hgd l9 (hz9 (by trivial)).1 hl64 (hz9 (by trivial)).2
                            have HPUT := Lib.hid hput
                            have HD10 := Lib.hid (And.intro kd10 (And.intro htfD9 (And.intro hts10.n8 (And.intro hts10.ti.lastl hl64))))
                            clear hts9 hp19 hz9 hl64 kd9 htfD9 hts10 kd10 hrb10 hput hb10 q92 cB92
                            go_wp2_with fail
                            refine HPUT.out.mono ?_
                            rintro e w11 ⟨rfl, s11, x11, htm11, hcg11, hti11, hp11, hco11, hfl11⟩
                            obtain ⟨kd10, htf10, hn8, hll, hl64⟩ := HD10.out
                            obtain ⟨hkd11, -⟩ := keepD (Array.getElem?_eq_some_iff.1 kd10).1 htf10 hcg11
                            have kd11 := hkd11.trans kd10
                            have q112 : w11.cell? ⟨Dx, 2, none⟩ = some (.slice ba bn bc) := cell_of_row w11 Dx 2 _ _ _ kd11
                            have hrb11 : RdB NoF w11 (.slice ba bn bc) dd.b := HRB.out w11 htm11.below
                            have hse := r5seal w11 _ dd.b l9 hrb11 hgd.len hl64
                            have HSE := Lib.hid hse
                            have HT11 := Lib.hid (And.intro htm11 (And.intro hti11 (And.intro hp11 (And.intro hco11 (And.intro hfl11 (And.intro hn8 hll))))))
                            clear htm11 hcg11 hti11 hp11 hco11 hfl11 kd10 htf10 hn8 hll hl64 hkd11 kd11 hrb11 hse HPUT HD10 q102 cB102
                            go_wp2_with fail
                            refine HSE.out.mono ?_
                            rintro e w12 ⟨gs, cps, rfl, hpw, hb12⟩
                            obtain ⟨htm11, hti11, hp11, hco11, hfl11, hn8, hll⟩ := HT11.out
                            have htm12 := htm11.more hb12
                            have hru : RdB (x11.af Pb L) w12 (.slice (some ⟨gs, 0, none⟩) 512 cps) (sealP dd.b l9) := hpw.rd (fun e => by
                              have h1 := htm11.pl.lt gs e
                              have h2 := (hpw.own.lt gs rfl).1
                              omega)
                            have htm13 := htm12.store HKN.out hll hru
                            obtain ⟨w13, hw13⟩ : ∃ w13, w12.setCell ⟨Lr, kk, none⟩ (.slice (some ⟨gs, 0, none⟩) 512 cps) = w13 := ⟨_, rfl⟩
                            rw [hw13] at htm13
                            have hts13 := htm13.ts hti11 hco11 hfl11 hn8
                            have cL12 : w12.cell? ⟨Lr, kk, none⟩ = some (vals[kk]'(by rw [htm12.vlen]; exact HKN.out)) := by
                              rw [cell_of_row w12 Lr kk _ _ _ htm12.row]
                              simp [htm12.vlen, HKN.out]
                            have zL12 : w12.frozen? ⟨Lr, kk, none⟩ = false := by simp [World.frozen?, htm12.row]
                            have cBu := hts13.cells.2.2
                            have hp13 := hp11
                            obtain ⟨vk, hvk⟩ : ∃ vk, vals[kk]'(by rw [htm12.vlen]; exact HKN.out) = vk := ⟨_, rfl⟩
                            rw [hvk] at cL12
                            obtain ⟨bk, hbk⟩ : ∃ bk, last[kk]? = some bk := ⟨_, List.getElem?_eq_getElem (by rw [hll]; exact HKN.out)⟩
                            obtain ⟨uk, huk1, huk2⟩ := htm12.rd kk bk hbk
                            obtain ⟨oa, on, oc, rfl, -⟩ := huk2.formN
                            have hvk2 : vk = .slice oa on oc := by
                              have h9 := List.getElem?_eq_getElem (l := vals) (i := kk) (by rw [htm12.vlen]; exact HKN.out)
                              rw [huk1, hvk] at h9
                              injection h9 with h9
                              exact h9.symm
                            rw [hvk2] at cL12
                            clear htm11 hti11 hco11 hfl11 hn8 hll htm12 hru htm13 hb12 hpw hvk hvk2 hbk huk1 huk2
                            have hup := unpin_T hts13 kk hp13
                            have HUP := Lib.hid hup
                            clear hup hts13 hp13 hp11 HT11 HT9 HT7
                            go_wp2_with (rw [hw13])
                            refine HUP.out.mono ?_
                            rintro e w9 ⟨rfl, s9, x9, hts9, hp09⟩
                            have HF := Lib.hid (And.intro (hts9.later (Nat.le_succ j)) hp09)
                            clear hts9 hp09 HUP
                            go_wp2
                            go_meet
                            exact ⟨_, _, _, _, HF.out⟩
                          · rw [goodB_false hgd] at hgo
                            have HGO := Lib.hid hgo
                            clear hgo hrb9
                            go_wp2_with fail
                            refine HGO.out.mono ?_
                            rintro e w10 ⟨rfl, hb10⟩
                            have hts10 := HT9.out.1.more hb10
                            have hp110 := HT9.out.2.1
                            have cBu := hts10.cells.2.2
                            have hup := unpin_T hts10 kk hp110
                            have HUP := Lib.hid hup
                            clear hup hts10 hp110 hb10 HT9 HT7
                            go_wp2_with fail
                            refine HUP.out.mono ?_
                            rintro e w9 ⟨rfl, s9, x9, hts9, hp09⟩
                            have HF := Lib.hid (And.intro (hts9.later (Nat.le_succ j)) hp09)
                            clear hts9 hp09 HUP
                            go_wp2
                            go_meet
                            exact ⟨_, _, _, _, HF.out⟩
                        · have hts10 := HT9.out.1
                          have hp110 := HT9.out.2.1
                          have hup := unpin_T hts10 kk hp110
                          have HUP := Lib.hid hup
                          clear hup hts10 hp110 HT9 HT7
                          go_wp2_with fail
                          refine HUP.out.mono ?_
                          rintro e w9 ⟨rfl, s9, x9, hts9, hp09⟩
                          have HF := Lib.hid (And.intro (hts9.later (Nat.le_succ j)) hp09)
                          clear hts9 hp09 HUP
                          go_wp2
                          go_meet
                          exact ⟨_, _, _, _, HF.out⟩
                    · by_cases hd3 : dop = 3
                      · as_aux_lemma =>
                          subst hd3
                          have cB2 := hts.cells.2.2
                          have hc := wr_T hts hp0 hjl3 kk
                          have HC := Lib.hid hc
                          clear hc hts hp0 kd6 hrb htfD hjl3 hkn
                          go_wp2_with fail
                          refine HC.out.mono ?_
                          rintro e w9 ⟨k9, s9, x9, rfl, hk9, hts9, hp09⟩
                          have HF := Lib.hid (And.intro (hts9.later (Nat.le_succ j)) hp09)
                          clear hts9 hp09 HC
                          rcases hk9 with rfl | rfl
                          · go_wp2
                            go_meet
                            exact ⟨_, _, _, _, HF.out⟩
                          · go_wp2
                            go_meet
                            exact ⟨_, _, _, _, HF.out⟩
                      · by_cases hd4 : dop = 4
                        · as_aux_lemma =>
                            subst hd4
                            have cB2 := hts.cells.2.2
                            have hc := writeAll_T hts hp0 hjl3
                            have HC := Lib.hid hc
                            clear hc hts hp0 kd6 hrb htfD hjl3 hkn
                            go_wp2_with fail
                            refine HC.out.mono ?_
                            rintro e w9 ⟨rfl, s9, x9, hts9, hp09⟩
                            have HF := Lib.hid (And.intro (hts9.later (Nat.le_succ j)) hp09)
                            clear hts9 hp09 HC
                            go_wp2
                            go_meet
                            exact ⟨_, _, _, _, HF.out⟩
                        · as_aux_lemma =>
                            have cB2 := hts.cells.2.2
                            have hc := sync_T hts hp0 hjl3
                            have HC := Lib.hid hc
                            clear hc hts hp0 kd6 hrb htfD hjl3 hkn
                            go_wp2_with fail
                            refine HC.out.mono ?_
                            rintro e w9 ⟨rfl, s9, x9, hts9, hp09⟩
                            have HF := Lib.hid (And.intro hts9 hp09)
                            clear hts9 hp09 HC
                            go_wp2
                            go_meet
                            exact ⟨_, _, _, _, HF.out⟩
            case rest =>
              obtain ⟨s2, x2, last2, vals2, hts2, hp02⟩ := hcut
              have hsz1 : w.heap.size ≤ w1.heap.size := HB1.out.size
              have hj3 : j + 1 ≤ 3518437208882 := by have := HV.out.2.1; have := HV.out.2.2.1; have := HD.out.2.2.2.2.1; omega
              have hcv : RdB x2.Fd wc (.slice ca cn cc) cs := RdV.keep HV.out.2.2.2 (fun q hq _ => (HB1.out.trans (hts2.below.mono hsz1)).block q hq) (fun q hq hF => by have := hts2.af0 q (.inr hF); omega)
              have hcr := d_crash wc D x2.Fd s2.dm hts2.pl.disk (by have := hts2.opsb hj3; omega) _ cs hcv
              have HCR := Lib.hid hcr
              have HT := Lib.hid (And.intro hts2 hp02)
              obtain ⟨cB0, cB1, cB2⟩ := hts2.cells
              have HJL := Lib.hid (And.intro HD.out.2.2.2.2.1 hj3)
              clear HD KD5 q60 q61 hkt HKT hcr hcv hts2 hp02 hj3 hsz1
              go_wp2_with fail
              refine HCR.out.mono ?_
              rintro e w20 ⟨rfl, Fc, hdc, hb20, hFc⟩
              obtain ⟨hts2, hp02⟩ := HT.out
              have hts20 := hts2.more hb20
              have hdtl : s2.pm.dt.length ≤ n := dt_len hts2.ti.dts hts2.ti.dpg
              have hdi := dirty_pl hts20.pl hts20.ti.dts (fun p hp => by have := hts2.ti.dpg p hp; have := hts2.n8; omega) (by have := hts2.n8; omega)
              obtain ⟨cC0, cC1, cC2⟩ := hts20.cells
              have HDI := Lib.hid hdi
              have HC20 := Lib.hid (And.intro hb20 (And.intro hdc hdtl))
              obtain ⟨C, hC⟩ : ∃ C, wc.heap.size + 2 = C := ⟨_, rfl⟩
              rw [hC] at HC20 ⊢
              clear hts2 hp02 hts20 hdi hdc hb20 hFc hdtl HCR cB0 cB1 cB2
              go_wp2_with fail
              refine HDI.out.mono ?_
              rintro e w21 ⟨gd, cd, rfl, hown21, hb21⟩
              obtain ⟨dl, hdl⟩ : ∃ dl, s2.pm.dt.length = dl := ⟨_, rfl⟩
              rw [hdl] at hown21 ⊢
              have hbs : Below wc.heap.size wc w21 := HC20.out.1.trans (hb21.mono HC20.out.1.size)
              have hts21 := HT.out.1.more hbs
              have hdc21 := HC20.out.2.1.below hb21
              have hdl8 : (dl : Int) ≤ 8 := by have := HC20.out.2.2; omega
              have hdl0 : (0 : Int) ≤ (dl : Int) := by omega
              have H21 := Lib.hid (And.intro hts21 (And.intro hdc21 (And.intro hown21 (And.intro hdl HT.out.2))))
              clear hown21 hb21 hbs hts21 hdc21 hdl HDI HC20 HT cC0 cC1 cC2
              go_wp2
              go_loopw [8, 24, 25, 26, 27, 28, 29, 30] (fun _ i _ _ _ _ _ _ wq => ∃ q : Nat, q ≤ n ∧ i = .int .i64 (q : Int) ∧ Below w21.heap.size w21 wq) (fun _ i _ _ _ _ _ _ _ => n - (RowKit.intOf i).toNat)
              case atStart => exact ⟨0, Nat.zero_le _, rfl, Below.refl _ _⟩
              case round =>
                obtain ⟨q, hq, rfl, hbq⟩ := hrel
                have hq0 : (0 : Int) ≤ (q : Int) := by omega
                rcases Nat.lt_or_eq_of_le hq with hql | rfl
                · obtain ⟨hts21, hdc21, hown21, hdl, hp02⟩ := H21.out
                  have htsq := hts21.more hbq
                  obtain ⟨cB0, cB1, cB2⟩ := htsq.cells
                  have hrd := read_pl htsq.pl htsq.ti.alive q (by rw [htsq.ti.base]; exact hql)
                  have HRD := Lib.hid hrd
                  have hqi : (q : Int) < (n : Int) := by omega
                  have HQ := Lib.hid (And.intro hbq hql)
                  clear hts21 hdc21 hown21 hdl hp02 htsq hrd hbq hql hq
                  go_wp2_with fail
                  refine HRD.out.mono ?_
                  rintro e w30 ⟨gr, rfl, hown30, hb30⟩
                  have hbq30 : Below w21.heap.size w21 w30 := HQ.out.1.trans (hb30.mono HQ.out.1.size)
                  have hts30 := H21.out.1.more hbq30
                  have hrx : RdB NoF w30 (.slice (some ⟨gr, 0, none⟩) 512 512) (s2.dm.page q) := OwnB.rd hown30 (fun _ _ => noF _)
                  have hck := r5check w30 _ _ hrx
                  rw [hts30.ti.dchk q HQ.out.2] at hck
                  have HCK := Lib.hid hck
                  have H30 := Lib.hid (And.intro hbq30 (And.intro hrx HQ.out.2))
                  clear hown30 hb30 hbq30 hts30 hrx hck HRD cB0 cB1 cB2 HQ
                  go_wp2_with fail
                  refine HCK.out.mono ?_
                  rintro e w31 ⟨rfl, hb31⟩
                  have hbq31 : Below w21.heap.size w21 w31 := H30.out.1.trans (hb31.mono H30.out.1.size)
                  have hrx31 := H30.out.2.1.below hb31
                  have hts31 := H21.out.1.more hbq31
                  obtain ⟨cB0, cB1, cB2⟩ := hts31.cells
                  have H31 := Lib.hid (And.intro hbq31 (And.intro hrx31 H30.out.2.2))
                  clear hb31 hbq31 hrx31 hts31 HCK H30
                  go_upto_region 52 with (fail)
                  have hms : ∀ V : World, (Instr.makeSlice 41 (.int .i64 512) (.int .i64 512)).run Tryz.prog V = .ok (.slice (some ⟨V.heap.size, 0, none⟩) 512 512) (V.alloc (bobj page0)) := fun V => make_bytes 512 512 (Nat.le_refl _) (by decide) V
                  go_cut [199] (fun a wx => a = .bool false ∧ Below w31.heap.size w31 wx)
                  case first =>
                    as_aux_lemma =>
                      obtain ⟨hbq31, hrx31, hql⟩ := H31.out
                      have hts31 := H21.out.1.more hbq31
                      have b0 : Below w31.heap.size w31 w31.drew := below_drewN (Below.refl _ _) 1
                      have b1 : Below w31.heap.size w31 (w31.alloc (bobj page0)).drew := b0.alloc b0.size _
                      have hpl : (s2.dm.page q).length = 512 := DM.page_length hts31.pl.disk.wf q (by rw [hts31.ti.base]; exact hql)
                      have hx1 := hrx31.below b1
                      have hls : Calls Tryz.prog 28 #[.slice (some ⟨gr, 0, none⟩) 512 512] (w31.alloc (bobj page0)).drew fun e w' => e = .returned (.int .u64 (gt (s2.dm.page q) 4 8)) ∧ (w31.alloc (bobj page0)).drew = w' := lsn8_any _ _ _ hx1 hpl
                      have hfo : Calls Tryz.prog 10 #[.pointer (some ⟨L, 0, none⟩)] (w31.alloc (bobj page0)).drew fun e w' => e = .returned (.int .u64 (s2.lm.base + s2.lm.forced : Nat)) ∧ ∃ k, w' = (w31.alloc (bobj page0)).drew.drewN k := forced_pl (hts31.more b1).pl
                      have hlt := hts31.ti.lsn q hql
                      obtain ⟨sp, hsp⟩ : ∃ sp, strOf (s2.dm.page q) = sp := ⟨_, rfl⟩
                      obtain ⟨s0, hs0⟩ : ∃ s0, strOf page0 = s0 := ⟨_, rfl⟩
                      have hS0 : (convert 41 9 (.slice (some ⟨gr, 0, none⟩) 512 512)).run Tryz.prog w31.drew = .ok (.string sp) w31.drew ∧ w31.drew.cell? ⟨Bx, 1, none⟩ = some (.pointer (some ⟨L, 0, none⟩)) := ⟨by rw [← hsp]; exact str_bytes (hrx31.below b0), (hts31.more b0).cells.2.1⟩
                      have hS1 : (convert 41 9 (.slice (some ⟨gr, 0, none⟩) 512 512)).run Tryz.prog (w31.alloc (bobj page0)).drew = .ok (.string sp) (w31.alloc (bobj page0)).drew ∧ (w31.alloc (bobj page0)).drew.cell? ⟨Bx, 1, none⟩ = some (.pointer (some ⟨L, 0, none⟩)) := ⟨by rw [← hsp]; exact str_bytes hx1, (hts31.more b1).cells.2.1⟩
                      have hS2 : ∀ k, (convert 41 9 (.slice (some ⟨gr, 0, none⟩) 512 512)).run Tryz.prog ((w31.alloc (bobj page0)).drewN k) = .ok (.string sp) ((w31.alloc (bobj page0)).drewN k) ∧ ((w31.alloc (bobj page0)).drewN k).cell? ⟨Bx, 1, none⟩ = some (.pointer (some ⟨L, 0, none⟩)) := fun k => ⟨by rw [← hsp]; exact str_bytes (RdB.drewN (hrx31.alloc (bobj page0)) k), (hts31.more b1).cells.2.1⟩
                      have cp1 : (convert 41 9 (.slice (some ⟨w31.heap.size, 0, none⟩) 512 512)).run Tryz.prog (w31.alloc (bobj page0)).drew = .ok (.string s0) (w31.alloc (bobj page0)).drew := by
                        rw [← hs0]; exact str_bytes (bobj_rd (F := NoF) w31.drew page0 512 rfl (by decide) (noF _))
                      have HLS := Lib.hid hls
                      have HFO := Lib.hid hfo
                      have HB := Lib.hid b1
                      by_cases hpe : s2.dm.page q = page0
                      · have hse : sp = s0 := by rw [← hsp, ← hs0, hpe]
                        subst hse
                        clear hbq31 hrx31 hql hts31 b0 b1 hpl hx1 hls hfo hlt hsp hs0 hpe cB0 cB1 cB2
                        refine wp_region_U (fun V => (convert 41 9 (.slice (some ⟨gr, 0, none⟩) 512 512)).run Tryz.prog V = .ok (.string sp) V ∧ V.cell? ⟨Bx, 1, none⟩ = some (.pointer (some ⟨L, 0, none⟩))) [] (by kernel_rfl) ?_
                        refine wpAnyU_take (i := 0) [1, 4, 5, 6, 7, 8, 9, 10, 11, 12] rfl (by as_aux_lemma => kernel_rfl) (by as_aux_lemma => kernel_rfl) (by as_aux_lemma => kernel_rfl) (by as_aux_lemma => kernel_rfl) (by as_aux_lemma => kernel_rfl) (by as_aux_lemma => kernel_rfl) (fun _ _ _ h => h) (Or.inl ⟨by rfl, (by intro W hSW; (try dsimp only at hSW); (try go_split_ands); go_simp <;> with_reducible rfl)⟩) hS0 ?_
                        try simp only [Act.put, List.getElem_toArray, List.getElem_cons_succ, List.getElem_cons_zero, List.setIfInBounds_toArray, List.set_cons_zero, List.set_cons_succ]
                        refine wpAnyU_take (i := 1) [4, 5, 6, 7, 8, 9, 10, 11, 12] rfl (by as_aux_lemma => kernel_rfl) (by as_aux_lemma => kernel_rfl) (by as_aux_lemma => kernel_rfl) (by as_aux_lemma => kernel_rfl) (by as_aux_lemma => kernel_rfl) (by as_aux_lemma => kernel_rfl) (fun _ _ _ h => h) (Or.inl ⟨by rfl, (by intro W hSW; (try dsimp only at hSW); (try go_split_ands); go_simp <;> with_reducible rfl)⟩) hS0 ?_
                        try simp only [Act.put, List.getElem_toArray, List.getElem_cons_succ, List.getElem_cons_zero, List.setIfInBounds_toArray, List.set_cons_zero, List.set_cons_succ]
                        refine wpAnyU_one (i := 2) (by kernel_rfl) rfl (fun K hK => ?_)
                        go_simp
                        refine hK.out _ _ (fun _ => hS1) (fun _ => ?_)
                        clear hK K
                        try simp only [Act.put, List.getElem_toArray, List.getElem_cons_succ, List.getElem_cons_zero, List.setIfInBounds_toArray, List.set_cons_zero, List.set_cons_succ]
                        refine wpAnyU_one (i := 3) (by kernel_rfl) rfl (fun K hK => ?_)
                        go_simp
                        refine hK.out _ _ (fun _ => hS1) (fun _ => ?_)
                        clear hK K
                        try simp only [Act.put, List.getElem_toArray, List.getElem_cons_succ, List.getElem_cons_zero, List.setIfInBounds_toArray, List.set_cons_zero, List.set_cons_succ]
                        refine wpAnyU_take (i := 4) [5, 6, 7, 8, 9, 10, 11, 12] rfl (by as_aux_lemma => kernel_rfl) (by as_aux_lemma => kernel_rfl) (by as_aux_lemma => kernel_rfl) (by as_aux_lemma => kernel_rfl) (by as_aux_lemma => kernel_rfl) (by as_aux_lemma => kernel_rfl) (fun _ _ _ h => h) (Or.inl ⟨by rfl, (by intro W hSW; (try dsimp only at hSW); (try go_split_ands); go_simp <;> with_reducible rfl)⟩) hS1 ?_
                        try simp only [Act.put, List.getElem_toArray, List.getElem_cons_succ, List.getElem_cons_zero, List.setIfInBounds_toArray, List.set_cons_zero, List.set_cons_succ]
                        refine wpAnyU_take (i := 5) [6, 7, 8, 9, 10, 11, 12] rfl (by as_aux_lemma => kernel_rfl) (by as_aux_lemma => kernel_rfl) (by as_aux_lemma => kernel_rfl) (by as_aux_lemma => kernel_rfl) (by as_aux_lemma => kernel_rfl) (by as_aux_lemma => kernel_rfl) (fun _ _ _ h => h) (Or.inl ⟨by rfl, (by intro W hSW; (try dsimp only at hSW); (try go_split_ands); go_simp <;> with_reducible rfl)⟩) hS1 ?_
                        try simp only [Act.put, List.getElem_toArray, List.getElem_cons_succ, List.getElem_cons_zero, List.setIfInBounds_toArray, List.set_cons_zero, List.set_cons_succ]
                        refine wpAnyU_take (i := 6) [7, 10, 11, 12] rfl (by as_aux_lemma => kernel_rfl) (by as_aux_lemma => kernel_rfl) (by as_aux_lemma => kernel_rfl) (by as_aux_lemma => kernel_rfl) (by as_aux_lemma => kernel_rfl) (by as_aux_lemma => kernel_rfl) (fun _ _ _ h => h) (by first | exact Or.inl ⟨by rfl, (by intro W hSW; (try dsimp only at hSW); (try go_split_ands); go_simp <;> with_reducible rfl)⟩ | exact Or.inr ⟨by rfl, rfl⟩) hS1 ?_
                        try simp only [Act.put, List.getElem_toArray, List.getElem_cons_succ, List.getElem_cons_zero, List.setIfInBounds_toArray, List.set_cons_zero, List.set_cons_succ]
                        refine wpAnyU_take (i := 8) [9, 10, 11, 12] rfl (by as_aux_lemma => kernel_rfl) (by as_aux_lemma => kernel_rfl) (by as_aux_lemma => kernel_rfl) (by as_aux_lemma => kernel_rfl) (by as_aux_lemma => kernel_rfl) (by as_aux_lemma => kernel_rfl) (fun _ _ _ h => h) (by first | exact Or.inl ⟨by rfl, (by intro W hSW; (try dsimp only at hSW); (try go_split_ands); go_simp <;> with_reducible rfl)⟩ | exact Or.inr ⟨by rfl, rfl⟩) hS1 ?_
                        try simp only [Act.put, List.getElem_toArray, List.getElem_cons_succ, List.getElem_cons_zero, List.setIfInBounds_toArray, List.set_cons_zero, List.set_cons_succ]
                        refine wpAnyU_take (i := 9) [10, 11, 12] rfl (by as_aux_lemma => kernel_rfl) (by as_aux_lemma => kernel_rfl) (by as_aux_lemma => kernel_rfl) (by as_aux_lemma => kernel_rfl) (by as_aux_lemma => kernel_rfl) (by as_aux_lemma => kernel_rfl) (fun _ _ _ h => h) (by first | exact Or.inl ⟨by rfl, (by intro W hSW; (try dsimp only at hSW); (try go_split_ands); go_simp <;> with_reducible rfl)⟩ | exact Or.inr ⟨by rfl, rfl⟩) hS1 ?_
                        try simp only [Act.put, List.getElem_toArray, List.getElem_cons_succ, List.getElem_cons_zero, List.setIfInBounds_toArray, List.set_cons_zero, List.set_cons_succ]
                        refine wpAnyU_one (i := 7) (by kernel_rfl) rfl (fun K hK => ?_)
                        go_simp
                        refine hK.out _ _ (fun _ => hS1) (fun _ => ?_)
                        clear hK K
                        try simp only [Act.put, List.getElem_toArray, List.getElem_cons_succ, List.getElem_cons_zero, List.setIfInBounds_toArray, List.set_cons_zero, List.set_cons_succ]
                        refine wpAnyU_one (i := 10) (by kernel_rfl) rfl (fun K hK => ?_)
                        go_simp
                        refine hK.out _ _ (fun _ => hS1) (fun _ => ?_)
                        clear hK K
                        try simp only [Act.put, List.getElem_toArray, List.getElem_cons_succ, List.getElem_cons_zero, List.setIfInBounds_toArray, List.set_cons_zero, List.set_cons_succ]
                        refine wpAnyU_take (i := 11) [12] rfl (by as_aux_lemma => kernel_rfl) (by as_aux_lemma => kernel_rfl) (by as_aux_lemma => kernel_rfl) (by as_aux_lemma => kernel_rfl) (by as_aux_lemma => kernel_rfl) (by as_aux_lemma => kernel_rfl) (fun _ _ _ h => h) (by first | exact Or.inl ⟨by rfl, (by intro W hSW; (try dsimp only at hSW); (try go_split_ands); go_simp <;> with_reducible rfl)⟩ | exact Or.inr ⟨by rfl, rfl⟩) hS1 ?_
                        try simp only [Act.put, List.getElem_toArray, List.getElem_cons_succ, List.getElem_cons_zero, List.setIfInBounds_toArray, List.set_cons_zero, List.set_cons_succ]
                        refine wpAnyU_take (i := 12) [] rfl (by as_aux_lemma => kernel_rfl) (by as_aux_lemma => kernel_rfl) (by as_aux_lemma => kernel_rfl) (by as_aux_lemma => kernel_rfl) (by as_aux_lemma => kernel_rfl) (by as_aux_lemma => kernel_rfl) (fun _ _ _ h => h) (Or.inl ⟨by rfl, (by intro W hSW; (try dsimp only at hSW); (try go_split_ands); go_simp <;> with_reducible rfl)⟩) hS1 ?_
                        try simp only [Act.put, List.getElem_toArray, List.getElem_cons_succ, List.getElem_cons_zero, List.setIfInBounds_toArray, List.set_cons_zero, List.set_cons_succ]
                        refine wpAnyU_done (by kernel_rfl) ?_ _
                        go_wp2
                        go_meet
                        exact ⟨rfl, HB.out⟩
                      · have hse : ¬ sp = s0 := fun e => hpe (by rw [← strOf_toList (s2.dm.page q), hsp, e, ← hs0, strOf_toList])
                        have hse4 : (sp.toList == s0.toList) = false := by rw [← hsp, ← hs0, strOf_eq]; simpa using hpe
                        have hlq : gt (s2.dm.page q) 4 8 < s2.lm.base + s2.lm.forced := hlt.resolve_left hpe
                        obtain ⟨gl, hgl⟩ : ∃ gl, gt (s2.dm.page q) 4 8 = gl := ⟨_, rfl⟩
                        obtain ⟨fo, hfoq⟩ : ∃ fo, s2.lm.base + s2.lm.forced = fo := ⟨_, rfl⟩
                        rw [hgl] at HLS hlq
                        rw [hfoq] at HFO hlq
                        have hgf : (gl : Int) < (fo : Int) := by omega
                        have hgf2 : ¬ (fo : Int) ≤ (gl : Int) := by omega
                        clear hbq31 hrx31 hql hts31 b0 b1 hpl hx1 hls hfo hlt hsp hs0 hpe cB0 cB1 cB2 hgl hfoq hlq
                        go_region_held (fun V => (convert 41 9 (.slice (some ⟨gr, 0, none⟩) 512 512)).run Tryz.prog V = .ok (.string sp) V ∧ V.cell? ⟨Bx, 1, none⟩ = some (.pointer (some ⟨L, 0, none⟩)))
                          (first | assumption | exact hS0 | exact hS1 | exact hS2 _)
                          ((first | (go_at_call 28; refine HLS.out.mono ?_; rintro e W' ⟨rfl, rfl⟩) | (go_at_call 10; refine HFO.out.mono ?_; rintro e W' ⟨rfl, kf, rfl⟩)))
                        go_wp2
                        go_meet
                        exact ⟨by rw [decide_eq_false (show ¬ fo ≤ gl by omega)], below_drewN ((Below.refl _ _).alloc (Nat.le_refl _) _) _⟩
                  case rest =>
                    obtain ⟨rfl, hb32⟩ := hcut
                    obtain ⟨w32, hw32⟩ : ∃ w32, w32 = wc := ⟨_, rfl⟩
                    subst hw32
                    have hbq32 : Below w21.heap.size w21 w32 := H31.out.1.trans (hb32.mono H31.out.1.size)
                    have H32 := Lib.hid (And.intro hbq32 H31.out.2.2)
                    have hown32 : w32.ownsRow w20.heap.size 69 2 (.slice (some ⟨gd, 0, none⟩) dl cd) dl (ents s2.pm.dt) := ownsRow_keep H21.out.2.2.1 (fun k hk => hbq32.block k (H21.out.2.2.1.lt k hk).2)
                    have HO32 := Lib.hid hown32
                    clear hb32 hbq32 hown32 H31 cB0 cB1 cB2 hms
                    go_wp2
                    go_loopw [27, 28] (fun b hh wq => ∃ z : Nat, z ≤ dl ∧ b = .bool (decide ((q : Int) ∈ (s2.pm.dt.take z).map (·.1))) ∧ hh = .int .i64 (z : Int) ∧ wq = w32) (fun _ hh _ => dl - (RowKit.intOf hh).toNat)
                    case atStart => exact ⟨0, Nat.zero_le _, by simp, rfl, rfl⟩
                    case round =>
                      obtain ⟨z, hz, rfl, rfl, hwq⟩ := hrel
                      subst hwq
                      obtain ⟨tb, htb⟩ : ∃ tb, decide ((q : Int) ∈ (s2.pm.dt.take z).map (·.1)) = tb := ⟨_, rfl⟩
                      rw [htb]
                      have hz0 : (0 : Int) ≤ (z : Int) := by omega
                      rcases Nat.lt_or_eq_of_le hz with hzl | rfl
                      · obtain ⟨⟨y, yr⟩, hy⟩ : ∃ y, s2.pm.dt[z]? = some y := ⟨_, List.getElem?_eq_getElem (by rw [H21.out.2.2.2.1]; exact hzl)⟩
                        obtain ⟨gg, off, ccp, e, -, -, -, -, hcel⟩ := (RdV.of_own (F := NoF) HO32.out (fun _ _ => noF _)).at_ (by omega)
                        injection e with e1 e2 e3
                        injection e1 with e1
                        injection e1 with e1 e4 e5
                        subst e1 e4
                        have ce := hcel (z * 2) (.int .i64 y) (by rw [ents_get _ z hy])
                        rw [Nat.zero_add] at ce
                        have z1 : (z : Int) < (dl : Int) := by omega
                        have htk : decide ((q : Int) ∈ (s2.pm.dt.take (z + 1)).map (·.1)) = (tb || decide ((q : Int) = y)) := by
                          rw [List.take_add_one, hy, ← htb, List.map_append]
                          simp only [List.mem_append, Option.toList_some, List.map_cons, List.map_nil, List.mem_singleton]
                          rw [Bool.decide_or]
                        have HT := Lib.hid (And.intro htk hzl)
                        clear htk hzl htb hy hz hcel e2 e3 e5
                        cases tb with
                        | true =>
                          go_wp2
                          go_roundw
                          case rel => exact ⟨z + 1, by have := HT.out.2; omega, by rw [HT.out.1]; rfl, rfl, by trivial⟩
                          case measure => have := HT.out.2; simp [RowKit.intOf]; omega
                        | false =>
                          by_cases hyn : y = (q : Int)
                          · subst hyn
                            go_wp2
                            go_roundw
                            case rel => exact ⟨z + 1, by have := HT.out.2; omega, by rw [HT.out.1]; simp, rfl, by trivial⟩
                            case measure => have := HT.out.2; simp [RowKit.intOf]; omega
                          · have hyn' : ¬ (q : Int) = y := fun e => hyn e.symm
                            have HYN := Lib.hid hyn'
                            go_wp2
                            go_roundw
                            case rel => exact ⟨z + 1, by have := HT.out.2; omega, by rw [HT.out.1]; simp [HYN.out, hyn], rfl, by trivial⟩
                            case measure => have := HT.out.2; simp [RowKit.intOf]; omega
                      · have hin : decide ((q : Int) ∈ s2.pm.dt.map (·.1)) = tb := by
                          have h9 := htb
                          rw [List.take_of_length_le (by rw [H21.out.2.2.2.1]; exact Nat.le_refl _)] at h9
                          exact h9
                        obtain ⟨hts21, hdc21, -, -, -⟩ := H21.out
                        obtain ⟨hbq32, hql⟩ := H32.out
                        have hdc32 := hdc21.below hbq32
                        have hcbl : (s2.dm.crash cs).base.length = n := by
                          show (s2.dm.crashPages cs).length = n
                          rw [crashPages_length, hts21.ti.base]
                        have hrdc := d_read _ C _ _ hdc32 rfl q (by rw [hcbl]; exact hql)
                        have hplc : ((s2.dm.crash cs).page q).length = 512 := DM.page_length hdc32.wf q (by rw [hcbl]; exact hql)
                        have HRC := Lib.hid hrdc
                        have HIN := Lib.hid (And.intro hin hplc)
                        clear hin htb hts21 hdc21 hbq32 hql hdc32 hcbl hrdc hplc hz
                        go_wp2_with fail
                        refine HRC.out.mono ?_
                        rintro e w33 ⟨rfl, hw33⟩
                        obtain ⟨hbq32, hql⟩ := H32.out
                        obtain ⟨hin, hplc⟩ := HIN.out
                        obtain ⟨gz, hgz⟩ : ∃ gz, wr.heap.size = gz := ⟨_, rfl⟩
                        have hb33 : Below wr.heap.size wr w33 := by rw [← hw33]; exact (Below.refl _ _).alloc (Nat.le_refl _) _
                        have hbq33 : Below w21.heap.size w21 w33 := hbq32.trans (hb33.mono hbq32.size)
                        have hry : RdB NoF w33 (.slice (some ⟨gz, 0, none⟩) 512 512) ((s2.dm.crash cs).page q) := by
                          have h9 := bobj_rd (F := NoF) wr ((s2.dm.crash cs).page q) 512 hplc.symm (by rw [hplc]; unfold maxLen; omega) (noF _)
                          rw [hplc, hw33, hgz] at h9
                          exact h9
                        rw [hgz]
                        have hqi : (q : Int) < (n : Int) := by omega
                        cases tb with
                        | true => as_aux_lemma =>
                            have HF := Lib.hid (And.intro hbq33 hql)
                            clear hbq32 hql hin hplc hgz hb33 hbq33 hry hw33 HRC HIN
                            go_upto_region 60 with (fail)
                            go_quiet (fail)
                            go_wp2
                            go_roundw
                            case rel => exact ⟨q + 1, by have := HF.out.2; omega, rfl, below_drewN HF.out.1 _⟩
                            case measure => have := HF.out.2; simp [RowKit.intOf]; omega
                        | false => as_aux_lemma =>
                            have hts33 := H21.out.1.more hbq33
                            have hno : dlook s2.pm.dt (q : Int) = none := by
                              cases hd : dlook s2.pm.dt (q : Int) with
                              | none => rfl
                              | some y =>
                                have h9 := List.mem_map_of_mem (f := (·.1)) ((dlook_iff hts33.ti.dts _ y).1 hd)
                                exact absurd h9 (of_decide_eq_false hin)
                            obtain ⟨hlq, hnw⟩ := hts33.ti.cert q hql hno
                            have hcp : (s2.dm.crash cs).page q = s2.dm.base.getD q page0 := crash_page_keep cs q hnw (fun p hp => by
                              rw [(hts33.pl.disk.wf.alive hts33.ti.alive).2] at hp
                              cases hp)
                            rw [hcp] at hry
                            obtain ⟨bq, hbqe⟩ : ∃ bq, s2.dm.base.getD q page0 = bq := ⟨_, rfl⟩
                            rw [hbqe] at hry hlq
                            obtain ⟨u, hu, hru⟩ := hts33.rd q bq hlq
                            obtain ⟨ua, un, uc, rfl, -⟩ := hru.formN
                            have cLq := hts33.cellL hu
                            have hs1 : ∀ k, (convert 41 9 (.slice (some ⟨gz, 0, none⟩) 512 512)).run Tryz.prog (w33.drewN k) = .ok (.string (strOf bq)) (w33.drewN k) := fun k => str_bytes (RdB.drewN hry k)
                            have hs2 : ∀ k, (convert 41 9 (.slice ua un uc)).run Tryz.prog (w33.drewN k) = .ok (.string (strOf bq)) (w33.drewN k) := fun k => str_bytes (RdB.drewN hru k)
                            have HF := Lib.hid (And.intro hbq33 hql)
                            clear hbq32 hql hin hplc hgz hb33 hbq33 hry hw33 HRC HIN hts33 hno hlq hnw hcp hbqe hu hru
                            go_upto_region 60 with (fail)
                            go_quiet (fail)
                            go_wp2
                            go_roundw
                            case rel => exact ⟨q + 1, by have := HF.out.2; omega, rfl, below_drewN HF.out.1 _⟩
                            case measure => have := HF.out.2; simp [RowKit.intOf]; omega
                · have hfin := H21.out.1.more hbq
                  have HWJ : Hid (wrap64 ((j : Int) + 1) = (j : Int) + 1) := by show _ = _; have h9 := HJL.out.2; unfold wrap64; omega
                  have HF := Lib.hid (And.intro hfin H21.out.2.2.2.2)
                  clear hfin hbq hq
                  go_wp2
                  go_roundw
                  case rel => exact ⟨j + 1, _, _, _, _, by have := HJL.out.1; omega, by rw [HWJ.out]; rfl, HF.out.1, HF.out.2⟩
                  case measure => have := HJL.out.1; rw [HWJ.out]; simp [RowKit.intOf]; omega
        · have hfin : Hid (Below w.heap.size w wr) := HB1.out.trans (hts.below.mono HB1.out.size)
          clear hts hp0 hj
          go_wp2
          go_ret
          exact ⟨rfl, hfin.out⟩
end Mun
