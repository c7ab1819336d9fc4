/- Contract of what reads a body whole, where it stands well. -/
import Derived.Test.YtoblajbffnkkiaaRecH
import Derived.Deep.DeepCutAuto
set_option maxRecDepth 100000
set_option linter.unusedVariables false
set_option linter.unusedSimpArgs false
namespace Mun
open Go Go.RowKit
open Go.Proofs

theorem infoR : (Try.prog.info? 26).map (·.size) = some 6 := by kernel_rfl

theorem make_changes (n : Nat) (hn : n ≤ 1048576) (w : World) : ∃ cs : Array Value, cs.size = n * 4 ∧
    (Instr.makeSlice 24 (.int .i64 0) (.int .i64 n)).run Try.prog w = .ok (.slice (some ⟨w.heap.size, 0, none⟩) 0 n) (w.alloc (.cells cs 81)) := by
  obtain ⟨i, hi, hz, h1, h2⟩ := info_of infoC3
  have hr := run_make (P := Try.prog) w _ _ i _ Try.underlying24 hi hz .i64 .i64 0 n (by omega) (by omega) (by rw [h2]; omega) (by omega)
  rw [h1] at hr
  refine ⟨_, ?_, hr⟩
  simp [madeCells, Value.cells]

/-- what is left when k numbers of the head are read -/
def rk (r : PR) (T : List UInt8) : Nat → List UInt8
  | 0 => vi r.tx ++ (vi r.prev ++ (vi r.next ++ T))
  | 1 => vi r.prev ++ (vi r.next ++ T)
  | 2 => vi r.next ++ T
  | _ => T
/-- the cells by then -/
def ck (r : PR) : Nat → Array Value
  | 0 => #[.int .i64 r.kind, .int .u64 0, .int .u64 0, .int .u64 0, .slice none 0 0, .slice none 0 0]
  | 1 => #[.int .i64 r.kind, .int .u64 r.tx, .int .u64 0, .int .u64 0, .slice none 0 0, .slice none 0 0]
  | 2 => #[.int .i64 r.kind, .int .u64 r.tx, .int .u64 r.prev, .int .u64 0, .slice none 0 0, .slice none 0 0]
  | _ => #[.int .i64 r.kind, .int .u64 r.tx, .int .u64 r.prev, .int .u64 r.next, .slice none 0 0, .slice none 0 0]

def RK (F : Foot) (w wr : World) (C G : Nat) (r : PR) (T : List UInt8) (i : Value) : Prop :=
  ∃ k u, ((k = 0 ∧ i = .int .i64 0) ∨ (k = 1 ∧ i = .int .i64 1) ∨ (k = 2 ∧ i = .int .i64 2) ∨ (k = 3 ∧ i = .int .i64 3)) ∧ BxC F w wr C G (ck r k) 26 u (rk r T k)

/-- what is left behind the head -/
def rT (r : PR) : List UInt8 := txt r.data ++ (vi r.cs.length ++ r.cs.flatMap chB)

theorem body_split (r : PR) : bodyR r = UInt8.ofNat r.kind.toNat :: rk r (rT r) 0 := by
  simp [bodyR, headR, rk, rT]

def RL (F : Foot) (w wr : World) (C G n : Nat) (r : PR) (dv : Value) (i : Value) : Prop :=
  ∃ (k : Nat) (v u : Value) (us : List CV), k ≤ n ∧ i = .int .i64 k ∧ us.map (·.1) = r.cs.take k ∧ RSt F w wr C G r dv v u us ((r.cs.drop k).flatMap chB)

set_option maxHeartbeats 2000000 in
theorem rec_any {F : Foot} (w : World) (C : Nat) (v : Value) (r : PR) (hg : goodR r = true) (hbig : (bodyR r).length ≤ 1048576) (ht : r.tx < 18446744073709551616) (hp : r.prev < 18446744073709551616) (hn : r.next < 18446744073709551616)
    (h : CurAt F w C v (bodyR r)) (hF : ∀ k, w.heap.size ≤ k → F k) :
    Calls Try.prog 66 #[.pointer (some ⟨C, 0, none⟩)] w fun e w' => ∃ x, e = .returned (rval r x) ∧ RecAt (OldF w.heap.size) w' r x ∧ Chg (B1 C) (B1 C) w w' := by
  have hG := (goodR_iff r).1 hg
  have hlen : r.data.length ≤ 1048576 ∧ r.cs.length ≤ 1048576 := by
    have := flat_len r.cs
    simp only [bodyR, txt, List.length_append] at hbig
    omega
  rw [body_split] at h
  have hk0 : 0 ≤ r.kind := by omega
  obtain ⟨kd, hkd⟩ := Int.eq_ofNat_of_zero_le hk0
  have hk9 : kd ≤ 9 := by omega
  have hb1 := BxC.start h #[.int .i64 0, .int .u64 0, .int .u64 0, .int .u64 0, .slice none 0 0, .slice none 0 0] 26 (hF _ (Nat.le_refl _))
  have HB1 := Lib.hid hb1
  have HG := Lib.hid hG
  have HGG := Lib.hid hg
  have HLEN := Lib.hid hlen
  have HF := Lib.hid hF
  have HT := Lib.hid (And.intro ht (And.intro hp hn))
  have HKD := Lib.hid hkd
  have HMS : Hid (∀ w1, Calls Try.prog 78 #[.bool true] w1 fun e w' => e = .returned (.tuple #[]) ∧ w1 = w') := fun w1 => must_yes w1
  obtain ⟨G, hGe⟩ : ∃ G, w.heap.size = G := ⟨_, rfl⟩
  obtain ⟨w1, hw1⟩ : ∃ w1, w.alloc (.cells #[.int .i64 0, .int .u64 0, .int .u64 0, .int .u64 0, .slice none 0 0, .slice none 0 0] 26) = w1 := ⟨_, rfl⟩
  rw [hw1, hGe] at HB1
  have hmf : ∀ (fn : Fn) (first cap : Array Value) (w : World), (Instr.makeFunc fn first cap).run Try.prog w = .ok (.func fn first cap) w := fun _ _ _ _ => rfl
  have i0 : ∀ w, (Instr.index 130 (.agg #[.pointer (some ⟨G, 1, none⟩), .pointer (some ⟨G, 2, none⟩), .pointer (some ⟨G, 3, none⟩)]) (.int .i64 0)).run Try.prog w = .ok (.pointer (some ⟨G, 1, none⟩)) w := fun _ => by kernel_rfl
  have i1 : ∀ w, (Instr.index 130 (.agg #[.pointer (some ⟨G, 1, none⟩), .pointer (some ⟨G, 2, none⟩), .pointer (some ⟨G, 3, none⟩)]) (.int .i64 1)).run Try.prog w = .ok (.pointer (some ⟨G, 2, none⟩)) w := fun _ => by kernel_rfl
  have i2 : ∀ w, (Instr.index 130 (.agg #[.pointer (some ⟨G, 1, none⟩), .pointer (some ⟨G, 2, none⟩), .pointer (some ⟨G, 3, none⟩)]) (.int .i64 2)).run Try.prog w = .ok (.pointer (some ⟨G, 3, none⟩)) w := fun _ => by kernel_rfl
  have hHG : Hid (w.heap.size = G) := hGe
  clear h hb1 hG hg hlen hF ht hp hn hk0 hkd hbig
  go_enter Try.func66, Try.ntmps66
  go_wp2_with fail
  clear hw1
  refine (byte_any w1 C v _ _ HB1.out.cur).mono ?_
  rintro e w2 ⟨rfl, hp2⟩
  have hx : (UInt8.ofNat r.kind.toNat).toNat = kd := by rw [UInt8.toNat_ofNat', HKD.out, Int.toNat_natCast]; omega
  rw [hx]
  obtain ⟨v2, hb2⟩ := HB1.out.call hp2
  have c0 : w2.cell? ⟨G, 0, none⟩ = some (.int .i64 0) := hb2.cell 0
  have f0 := hb2.free 0
  have hb3 := hb2.set 0 (.int .i64 kd)
  obtain ⟨w3, hw3⟩ : ∃ w3, w2.setCell ⟨G, 0, none⟩ (.int .i64 kd) = w3 := ⟨_, rfl⟩
  rw [hw3] at hb3
  have hb3' : BxC F w w3 C G (ck r 0) 26 v2 (rk r (rT r) 0) := by
    have e : ck r 0 = (#[.int .i64 0, .int .u64 0, .int .u64 0, .int .u64 0, .slice none 0 0, .slice none 0 0] : Array Value).setIfInBounds 0 (.int .i64 kd) := by unfold ck; rw [HKD.out]; rfl
    rw [e]; exact hb3
  have HB3 := Lib.hid hb3'
  have kd0 : (0 : Int) ≤ (kd : Int) := by omega
  have kd1 : (kd : Int) ≤ 9 := by omega
  clear hb2 hb3 hb3' hp2 hx hGe
  go_wp2
  clear hw3 c0 f0
  go_loopw [17] (fun i wr => RK F w wr C G r (rT r) i) (fun i _ => 3 - (intOf i).toNat)
  case atStart => exact ⟨0, v2, .inl ⟨rfl, rfl⟩, HB3.out⟩
  case round =>
    obtain ⟨k, u, hk, hb⟩ := hrel
    have HB := Lib.hid hb
    clear hb HB3
    rcases hk with ⟨rfl, rfl⟩ | ⟨rfl, rfl⟩ | ⟨rfl, rfl⟩ | ⟨rfl, rfl⟩
    · have hn := number_any wr C u r.tx (vi r.prev ++ (vi r.next ++ rT r)) HT.out.1 HB.out.cur
      have HN := Lib.hid hn
      clear hn i1 i2
      go_wp2_with fail
      refine HN.out.mono ?_
      rintro e w2 ⟨rfl, hp2⟩
      obtain ⟨u2, hb2⟩ := HB.out.call hp2
      have c1 : w2.cell? ⟨G, 1, none⟩ = some (.int .u64 0) := hb2.cell 1
      have f1 := hb2.free 1
      have hb3 : BxC F w (w2.setCell ⟨G, 1, none⟩ (.int .u64 r.tx)) C G (ck r 1) 26 u2 (rk r (rT r) 1) := hb2.set 1 (.int .u64 r.tx)
      have HB3 := Lib.hid hb3
      clear hb2 hb3 hp2
      go_wp2
      go_roundw
      case rel => exact ⟨1, u2, .inr (.inl ⟨rfl, rfl⟩), HB3.out⟩
      case measure => simp [intOf]
    · have hn := number_any wr C u r.prev (vi r.next ++ rT r) HT.out.2.1 HB.out.cur
      have HN := Lib.hid hn
      clear hn i0 i2
      go_wp2_with fail
      refine HN.out.mono ?_
      rintro e w2 ⟨rfl, hp2⟩
      obtain ⟨u2, hb2⟩ := HB.out.call hp2
      have c1 : w2.cell? ⟨G, 2, none⟩ = some (.int .u64 0) := hb2.cell 2
      have f1 := hb2.free 2
      have hb3 : BxC F w (w2.setCell ⟨G, 2, none⟩ (.int .u64 r.prev)) C G (ck r 2) 26 u2 (rk r (rT r) 2) := hb2.set 2 (.int .u64 r.prev)
      have HB3 := Lib.hid hb3
      clear hb2 hb3 hp2
      go_wp2
      go_roundw
      case rel => exact ⟨2, u2, .inr (.inr (.inl ⟨rfl, rfl⟩)), HB3.out⟩
      case measure => simp [intOf]
    · have hn := number_any wr C u r.next (rT r) HT.out.2.2 HB.out.cur
      have HN := Lib.hid hn
      clear hn i0 i1
      go_wp2_with fail
      refine HN.out.mono ?_
      rintro e w2 ⟨rfl, hp2⟩
      obtain ⟨u2, hb2⟩ := HB.out.call hp2
      have c1 : w2.cell? ⟨G, 3, none⟩ = some (.int .u64 0) := hb2.cell 3
      have f1 := hb2.free 3
      have hb3 : BxC F w (w2.setCell ⟨G, 3, none⟩ (.int .u64 r.next)) C G (ck r 3) 26 u2 (rk r (rT r) 3) := hb2.set 3 (.int .u64 r.next)
      have HB3 := Lib.hid hb3
      clear hb2 hb3 hp2
      go_wp2
      go_roundw
      case rel => exact ⟨3, u2, .inr (.inr (.inr ⟨rfl, rfl⟩)), HB3.out⟩
      case measure => simp [intOf]
    · clear i0 i1 i2 hmf
      obtain ⟨w4, rfl⟩ : ∃ w4 : World, w4 = wr := ⟨_, rfl⟩
      have ht := textr_any w4 C u r.data (vi r.cs.length ++ r.cs.flatMap chB) HLEN.out.1 HB.out.cur
      have HTX := Lib.hid ht
      clear ht
      go_wp2_with fail
      refine HTX.out.mono ?_
      rintro e w5 ⟨g5, n5, rfl, HN5, ho5, hp5⟩
      obtain ⟨u5, hb5⟩ := HB.out.call hp5
      have c4 : w5.cell? ⟨G, 4, none⟩ = some (.slice none 0 0) := hb5.cell 4
      have f4 := hb5.free 4
      have hb6 : BxC F w (w5.setCell ⟨G, 4, none⟩ (.slice (some ⟨g5, 0, none⟩) n5 n5)) C G (rcs r (.slice (some ⟨g5, 0, none⟩) n5 n5) (.slice none 0 0)) 26 u5 (vi r.cs.length ++ r.cs.flatMap chB) := hb5.set 4 (.slice (some ⟨g5, 0, none⟩) n5 n5)
      have ho6 : OwnB (w5.setCell ⟨G, 4, none⟩ (.slice (some ⟨g5, 0, none⟩) n5 n5)) w.heap.size 5 (.slice (some ⟨g5, 0, none⟩) n5 n5) r.data := by
        have h1 := ownsRow_base ho5 (base' := w.heap.size) (fun k hk => by have := (ho5.lt k hk).1; have := HB.out.chg.size; omega)
        exact ownB_same h1 (fun k hk => block_setCell_ne _ (fun e => by have := (ho5.lt k hk).1; have := lt_of_block HB.out.blk; omega))
      obtain ⟨w6, hw6⟩ : ∃ w6, w5.setCell ⟨G, 4, none⟩ (.slice (some ⟨g5, 0, none⟩) n5 n5) = w6 := ⟨_, rfl⟩
      rw [hw6] at hb6 ho6
      obtain ⟨n, hn⟩ : ∃ n, r.cs.length = n := ⟨_, rfl⟩
      rw [hn] at hb6
      have hnn : n ≤ 1048576 := by rw [← hn]; exact HLEN.out.2
      have hsm := small_any w6 C u5 n (r.cs.flatMap chB) hnn hb6.cur
      have HSM := Lib.hid hsm
      have HB6 := Lib.hid hb6
      have HO6 := Lib.hid ho6
      have HNN := Lib.hid hn
      clear hb5 hp5 ho5 hb6 ho6 hsm HTX hn
      go_wp2_with fail
      clear hw6 c4 f4
      refine HSM.out.mono ?_
      rintro e w7 ⟨rfl, hp7⟩
      obtain ⟨u7, hb7⟩ := HB6.out.call hp7
      have ho7 : OwnB w7 w.heap.size 5 (.slice (some ⟨g5, 0, none⟩) n5 n5) r.data := by
        obtain ⟨_, _, hc7⟩ := hp7
        exact ownB_same HO6.out (fun k hk => hc7.block k (HO6.out.lt k hk).2 (fun e => by have := (HO6.out.lt k hk).1; have := HB6.out.ne; have : k = C := e; omega))
      obtain ⟨ua, un, uc, rfl, HU, -, hum⟩ := hb7.cur.rd.formN
      have hun : n ≤ un := by rw [HU.out, ← HNN.out]; exact flat_len _
      have huni : (un : Int) ≤ 9223372036854775807 := by have := hb7.cur.rd.nmax; have := HU.out; unfold maxLen at *; omega
      have n0 : (0 : Int) ≤ (n : Int) := by omega
      have n1 : (n : Int) ≤ 1048576 := by omega
      have cc := hb7.cur.cell
      have c5 : w7.cell? ⟨G, 5, none⟩ = some (.slice none 0 0) := hb7.cell 5
      have f5 := hb7.free 5
      obtain ⟨zs, hzs, hmk⟩ := make_changes n hnn w7
      have hb8 := (BxC.set (i := 5) (u := .slice (some ⟨w7.heap.size, 0, none⟩) 0 n) (⟨by rw [heap_alloc_old _ _ (lt_of_block hb7.blk)]; exact hb7.blk, hb7.cur.below ((Below.refl _ _).alloc (Nat.le_refl _) _), hb7.chg.trans (chg_alloc w7 _), hb7.new, hb7.ne, hb7.hg⟩ : BxC F w (w7.alloc (.cells zs 81)) C G _ _ _ _))
      have hst : RSt F w ((w7.alloc (.cells zs 81)).setCell ⟨G, 5, none⟩ (.slice (some ⟨w7.heap.size, 0, none⟩) 0 n)) C G r (.slice (some ⟨g5, 0, none⟩) n5 n5) (.slice (some ⟨w7.heap.size, 0, none⟩) 0 n) (.slice ua un uc) [] (r.cs.flatMap chB) := by
        refine ⟨hb8, ?_, by simp, ?_⟩
        · refine ownsRow_keep (w := w7.alloc (.cells zs 81)) ⟨by simp, .inr ⟨_, n, zs, rfl, hb7.chg.size, heap_alloc_new w7 _, Nat.zero_le _, by unfold maxLen; omega, hzs, by simp⟩⟩ (fun k e => ?_)
          simp only [Value.ownBlock, Option.some.injEq] at e
          subst e
          exact block_setCell_ne _ (fun e => by have := lt_of_block hb7.blk; omega)
        · exact ownB_same ho7 (fun k hk => by rw [block_setCell_ne _ (fun e => ownB_ne ho7 hb7.blk (by decide) (by rw [← (show k = G from e)]; exact hk)), heap_alloc_old _ _ (ho7.lt k hk).2])
      obtain ⟨w8, hw8⟩ : ∃ w8, (w7.alloc (.cells zs 81)).setCell ⟨G, 5, none⟩ (.slice (some ⟨w7.heap.size, 0, none⟩) 0 n) = w8 := ⟨_, rfl⟩
      rw [hw8] at hst
      have HST := Lib.hid hst
      have hz7 : G < w7.heap.size := lt_of_block hb7.blk
      clear hb7 hp7 ho7 hb8 hst hzs hum HO6 HSM
      go_wp2_with (go_at_call 78; refine (HMS.out _).mono ?_; rintro e w9 ⟨rfl, rfl⟩)
      clear hw8 c5 f5 cc hmk hz7 huni hun
      go_loopw [42] (fun i wr => RL F w wr C G n r (.slice (some ⟨g5, 0, none⟩) n5 n5) i) (fun i _ => n - (intOf i).toNat)
      case atStart => exact ⟨0, _, _, [], Nat.zero_le _, rfl, by simp, by simpa using HST.out⟩
      case round =>
        obtain ⟨k, v, u, us, hk, rfl, hus, hst⟩ := hrel
        have hul : us.length = k := by
          have h1 := congrArg List.length hus
          simp only [List.length_map, List.length_take] at h1
          have := HNN.out
          omega
        obtain ⟨va, vc, rfl⟩ : ∃ a c, v = .slice a us.length c := by
          obtain ⟨a, c, h1, _⟩ := (RdV.of_own (F := NoF) hst.row (fun _ _ => noF _)).form
          exact ⟨a, c, h1⟩
        have HUS := Lib.hid hus
        have HUL := Lib.hid hul
        have HST := Lib.hid hst
        clear hus
        by_cases hlt : k < n
        · have hkl : k < r.cs.length := by rw [HNN.out]; exact hlt
          have hdr : (r.cs.drop k).flatMap chB = chB r.cs[k] ++ (r.cs.drop (k + 1)).flatMap chB := by rw [List.drop_eq_getElem_cons hkl, List.flatMap_cons]
          rw [hdr] at hst
          have hgc : GoodC r.cs[k] := HG.out.2.2 _ (List.getElem_mem hkl)
          have htk : r.cs.take (k + 1) = r.cs.take k ++ [r.cs[k]] := take_snoc r.cs k hkl
          obtain ⟨pc, hpc⟩ : ∃ pc, r.cs[k] = pc := ⟨_, rfl⟩
          rw [hpc] at hst hgc htk
          have HTK := Lib.hid htk
          have hF2 : ∀ k, wr.drew.heap.size ≤ k → F k := fun j hj => HF.out j (Nat.le_trans hst.bx.chg.size hj)
          have hcd : CurAt F wr.drew C u (chB pc ++ (r.cs.drop (k + 1)).flatMap chB) := hst.bx.cur.below (below_drewN (Below.refl _ _) 1)
          have hch := change_any wr.drew C u pc _ hgc hcd hF2
          have HCH := Lib.hid hch
          have hS0 : wr.drew.cell? ⟨G, 5, none⟩ = some (.slice va us.length vc) := hst.bx.cell 5
          have HST2 := Lib.hid hst
          have HLT := Lib.hid hlt
          clear hst hdr hgc htk hpc hF2 hcd hch hul hkl
          go_upto_region 14 with (fail)
          refine wp_region_U (fun W => W.cell? ⟨G, 5, none⟩ = some (.slice va us.length vc)) [7] (by kernel_rfl) ?_
          refine wpAnyU_take (i := 0) [1, 5, 6, 7] rfl (by kernel_rfl) (by kernel_rfl) (by kernel_rfl) (by kernel_rfl) (by kernel_rfl) (by kernel_rfl) (fun _ _ _ h => h) (Or.inl ⟨by rfl, (by intro W hSW; (try dsimp only at hSW); (try go_split_ands); go_simp <;> with_reducible rfl)⟩) hS0 ?_
          try simp only [Act.put, List.setIfInBounds_toArray, List.set_cons_zero, List.set_cons_succ]
          refine wpAnyU_take (i := 1) [5, 6, 7] rfl (by kernel_rfl) (by kernel_rfl) (by kernel_rfl) (by kernel_rfl) (by kernel_rfl) (by kernel_rfl) (fun _ _ _ h => h) (Or.inl ⟨by rfl, (by intro W hSW; (try dsimp only at hSW); (try go_split_ands); go_simp <;> with_reducible rfl)⟩) hS0 ?_
          try simp only [Act.put, List.setIfInBounds_toArray, List.set_cons_zero, List.set_cons_succ]
          refine wpAnyU_take (i := 2) [3, 4, 5, 6, 7] rfl (by kernel_rfl) (by kernel_rfl) (by kernel_rfl) (by kernel_rfl) (by kernel_rfl) (by kernel_rfl) (fun _ _ _ h => h) (Or.inl ⟨by rfl, (by intro W hSW; (try dsimp only at hSW); (try go_split_ands); go_simp <;> with_reducible rfl)⟩) hS0 ?_
          try simp only [Act.put, List.setIfInBounds_toArray, List.set_cons_zero, List.set_cons_succ]
          refine wpAnyU_one (i := 3) (by kernel_rfl) rfl (fun K hK => ?_)
          go_simp
          go_at_call 79
          (with_reducible refine HCH.out.mono ?_)
          rintro e w2 ⟨g, m, rfl, hm, ho, hp⟩
          obtain ⟨u2, hs2⟩ := HST2.out.call (show CPost F wr C _ w2 from by obtain ⟨q1, q2, q3⟩ := hp; exact ⟨q1, q2, ⟨q3.os, q3.tape, q3.output, q3.size, q3.block, q3.foot⟩⟩)
          have ho2 := ownsRow_base ho (base' := w.heap.size) (fun k hk => Nat.le_trans HST2.out.bx.chg.size (ho.lt k hk).1)
          obtain ⟨R, cp, w3, hr, hrow, hgr, hor, hlt3⟩ := push_change (ty := 24) (c := pc) (g := g) (n := m) hs2.row hs2.bx.chg.size (by have := HUL.out; have := HLT.out; omega)
          obtain ⟨c5, f5, hs3⟩ := hs2.push ho2 HF.out hrow hgr hor hlt3
          have hS2 : w2.cell? ⟨G, 5, none⟩ = some (.slice va us.length vc) := hs2.bx.cell 5
          have hS2a : (w2.alloc (.cells #[.int .i64 pc.page, .int .i64 pc.at_, .bool pc.whole, .slice (some ⟨g, 0, none⟩) m m] 81)).cell? ⟨G, 5, none⟩ = some (.slice va us.length vc) :=
            cell_of_row _ _ 5 _ _ _ ((heap_alloc_old _ _ (lt_of_block hs2.bx.blk)).trans hs2.bx.blk)
          have HR := Lib.hid hr
          have HS3 := Lib.hid hs3
          clear hm ho hp hs2 ho2 hr hrow hgr hor hlt3 hs3 HCH
          refine hK.out _ _ (fun _ => hS2) (fun _ => ?_)
          clear hK K
          refine wpAnyU_one (i := 4) (by kernel_rfl) rfl (fun K hK => ?_)
          go_simp
          refine hK.out _ _ (fun _ => hS2a) (fun _ => ?_)
          clear hK K
          refine wpAnyU_one (i := 5) (by kernel_rfl) rfl (fun K hK => ?_)
          refine step_append_is rfl rfl HR.out rfl rfl ?_
          refine hK.out _ _ (fun _ => c5) (fun _ => ?_)
          clear hK K
          refine wpAnyU_take (i := 6) [7] rfl (by kernel_rfl) (by kernel_rfl) (by kernel_rfl) (by kernel_rfl) (by kernel_rfl) (by kernel_rfl) (fun _ _ _ h => h) (Or.inl ⟨by rfl, (by intro W hSW; (try dsimp only at hSW); (try go_split_ands); go_simp <;> with_reducible rfl)⟩) c5 ?_
          try simp only [Act.put, List.setIfInBounds_toArray, List.set_cons_zero, List.set_cons_succ]
          refine wpAnyU_one (i := 7) (by kernel_rfl) rfl (fun K hK => ?_)
          go_simp
          refine hK.out _ _ (fun h => absurd h (by decide)) (fun _ => ?_)
          clear hK K
          refine wpAnyU_done (by kernel_rfl) ?_ _
          clear hS0 hS2 hS2a c5 f5
          go_wp2
          go_roundw
          case rel => exact ⟨k + 1, _, u2, _, by have := HLT.out; omega, by go_num, by rw [List.map_append, HUS.out, HTK.out]; rfl, HS3.out⟩
          case measure => have := HLT.out; simp [intOf]; omega
        · obtain rfl : k = n := by omega
          have hus2 : us.map (·.1) = r.cs := by rw [HUS.out, ← HNN.out, List.take_length]
          have hdr : (r.cs.drop k).flatMap chB = [] := by rw [← HNN.out, List.drop_length]; rfl
          rw [hdr] at hst
          have hrec := hst.read hus2 HT.out.1 HT.out.2.1 HT.out.2.2
          have hgd := good_any wr r _ hrec
          rw [HGG.out] at hgd
          unfold rval at hgd
          simp only at hgd
          obtain ⟨a9, n9, c9, rfl, HN9, -, -⟩ := hst.bx.cur.rd.formN
          have hn9 : n9 = 0 := HN9.out
          subst hn9
          have cc := hst.bx.cur.cell
          obtain ⟨k0, k1, k2, k3, k4, k5⟩ := box6 (w := w) hst.bx.blk
          rw [HKD.out] at k0 hgd
          have HGD := Lib.hid hgd
          have HREC := Lib.hid hrec
          have HST3 := Lib.hid hst
          clear hst hrec hgd hdr hus2 hul
          have h1c : (rcs r (.slice (some ⟨g5, 0, none⟩) n5 n5) (.slice va us.length vc)).all (·.oneCell') = true := by simp [rcs, Value.oneCell']
          have H1C := Lib.hid h1c
          clear h1c
          go_upto_region 17 with (first
            | (go_at_call 33; (with_reducible refine HGD.out.mono ?_); rintro e w9 ⟨rfl, hb9⟩
               have HB9 := Lib.hid hb9
               have HBK := Lib.hid ((hb9.block G (lt_of_block HST3.out.bx.blk)).trans HST3.out.bx.blk)
               clear hb9)
            | (go_at_call 78; refine (HMS.out _).mono ?_; rintro e w10 ⟨rfl, rfl⟩))
          have hself := setRow_self w9 G _ _ _ HBK.out
          have HSELF := Lib.hid hself
          clear hself k0 k1 k2 k3 k4 k5 cc
          go_wp2_with (first
            | (refine wpList_load_row rfl _ _ rfl G rfl _ _ (0, 0) _ HBK.out Try.underlying26 rfl infoR ?_)
            | (refine wpList_store_row rfl _ _ _ rfl G _ rfl rfl _ _ HBK.out infoR rfl H1C.out ?_; rw [HSELF.out]))
          obtain ⟨q0, q1, q2, q3, q4, q5⟩ := box6 (w := w) HBK.out
          refine bodyPost_ret (by simp [results, Try.results66, go_sem, q0, q1, q2, q3, q4, q5]; try rfl) rfl ?_
          refine ⟨⟨.slice (some ⟨g5, 0, none⟩) n5 n5, .slice va us.length vc, us⟩, rfl, HREC.out.below HB9.out, HST3.out.bx.chg.trans (Chg.of_below HB9.out _)⟩
end Mun
