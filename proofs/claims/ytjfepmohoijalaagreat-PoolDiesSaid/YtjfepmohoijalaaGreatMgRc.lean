/- Texts of mine, one behind the other: RpI, RpJ, RpK, RpL, RpM. -/
import Derived.Test.YtjfepmohoijalaaGreatMgRb
section
/- Sync of chapter 8's own pool; appends of one element of many cells. -/
set_option maxRecDepth 100000
set_option linter.unusedVariables false
set_option linter.unusedSimpArgs false
namespace Mun
open Go Go.RowKit
open Go.Proofs

/-- append(row, one element) -/
theorem push_row {t e : TypeId} {z : Value} {size bytes : Nat} (ht : Tryz.prog.underlying t = some (.slice e)) (hinfo : (Tryz.prog.info? e).map (fun i => (i.zero, i.size, i.bytes)) = some (some z, size, bytes)) (hzs : z.cells.size = size) (hsz : 0 < size) (hpos : 0 < bytes) (hb64 : bytes ≤ 64)
    {w : World} {B : Nat} {ty : TypeId} {v : Value} {n : Nat} {xs : List Value} (cs : Array Value) (hcs : cs.size = size) (h1 : ∀ u ∈ cs.toList, u.oneCell' = true) (h : w.ownsRow B e size v n xs) (hB : B ≤ w.heap.size) (hl : n ≤ 65536) :
    ∃ R cp w', (Builtin.append_ #[t, t] ty #[v, .slice (some ⟨w.heap.size, 0, none⟩) 1 1]).run Tryz.prog (w.alloc (.cells cs e)) = .ok (.slice (some ⟨R, 0, none⟩) (n + 1) cp) w' ∧
      w'.ownsRow B e size (.slice (some ⟨R, 0, none⟩) (n + 1) cp) (n + 1) (xs ++ cs.toList) ∧ (w.alloc (.cells cs e)).grownBy w' v.ownBlock := by
  obtain ⟨i, hi, hz, h2, h3⟩ := info_of hinfo
  have hsrc : RdV (fun _ => False) (w.alloc (.cells cs e)) size (.slice (some ⟨w.heap.size, 0, none⟩) 1 1) 1 cs.toList :=
    ⟨by rw [Array.length_toList, hcs, Nat.one_mul], _, _, rfl, Nat.le_refl _, by unfold maxLen; omega, by simp, fun _ => ⟨w.heap.size, 0, cs, e, (0, 0), rfl, fun h => h, heap_alloc_new w _, by rw [List.drop_zero, Nat.one_mul, ← hcs, ← Array.length_toList, List.take_length]⟩⟩
  obtain ⟨v', w', hr, ho, hg, hob, hnil⟩ := run_append_rd (P := Tryz.prog) (base := B) (ty := ty) ht hi hz h2 h3 hzs hsz (World.ownsRow.alloc h _) hsrc h1 (by
    have : (n + 1) * bytes ≤ (65537) * 64 := Nat.mul_le_mul (by omega) hb64
    omega) hpos (by rw [World.size_alloc]; omega)
  rcases ho.2 with ⟨rfl, h0⟩ | ⟨R, cp, cur, rfl, hb, hR, hrest⟩
  · exact absurd (hnil.1 rfl).2 (by omega)
  · exact ⟨R, cp, w', hr, ho, hg⟩

section
variable {F : Foot} {w0 w w' : World} {B : Nat} {p p' : RP} {x x' : RPV}
theorem RW.Bsz (h : RW F w0 B w p x) (hf : 0 < x.fs.length) : B ≤ w.heap.size := by
  obtain ⟨g, c, e, h1, h2⟩ := own_form h.own.fs hf
  omega
/-- the marks are another row, in new memory -/
theorem RW.newD (h : RW F w0 B w p x) (hBw : B ≤ w.heap.size) (dt' : List (Int × (Nat × Bool))) (dv' : Value) (hb : Below w.heap.size w w') (ho : w'.ownsRow w.heap.size 48 3 dv' dt'.length (mkc dt')) :
    RW F w0 B (w'.setCell ⟨w0.heap.size, 2, none⟩ dv') { p with dt := dt' } { x with dv := dv' } := by
  have hB := h.hB
  have h1 := h.below hb
  have ho' := h.own.newD dt' dv' hb hBw ho
  have hbx := h1.box.set 2 dv'
  rw [show (rpcells p x).setIfInBounds 2 dv' = rpcells { p with dt := dt' } { x with dv := dv' } by simp [rpcells]] at hbx
  refine ⟨h1.bl.setCell (Nat.le_refl _) _, hbx, h1.res.setNe 2 _ (by omega), ?_, hB, h.hF⟩
  exact ho'.keep (fun k hk hn => setCell_heap _ _ _ _ (fun e => hn (.inr ⟨by simp only at e; omega, by simp only at e; omega⟩))) (by rw [setCell_size]; exact Nat.le_refl _)

theorem mkc_push (l : List (Int × (Nat × Bool))) (d : Int × (Nat × Bool)) : mkc (l ++ [d]) = mkc l ++ m3 d := by simp [mkc]
theorem infoMk : (Tryz.prog.info? 48).map (·.size) = some 3 := by kernel_rfl
theorem filter_take_succ {α : Type} (f : α → Bool) {l : List α} {k : Nat} {d : α} (h : l[k]? = some d) : (l.take (k + 1)).filter f = (l.take k).filter f ++ (if f d then [d] else []) := by
  rw [List.take_add_one, h, List.filter_append]
  simp only [Option.toList_some, List.filter_cons, List.filter_nil]

set_option maxHeartbeats 4000000 in
theorem rp_sync (h : RAt F w p x) (hok : p.Ok) (hF : ∀ k, F k → k < w.heap.size) :
    Calls Tryz.prog 38 #[.agg (rpcells p x)] w (REnd F w p.sync id) := by
  obtain ⟨w1, hw1, hb1, k0, k1, s1⟩ := rp_boxes w (rpcells p x) rfl
  have hcp := rp_copied (h.inF hb1 w1.heap.size) hok.sm (inF_lt hF hb1)
  obtain ⟨cs, hcs⟩ : ∃ cs, rpcells p x = cs := ⟨_, rfl⟩
  have HI6 : Hid ((Tryz.prog.info? 36).map (·.size) = some cs.size) := by rw [← hcs]; exact info6
  have k0' := k0
  rw [hcs] at hw1 hcp k0' ⊢
  obtain ⟨post, hpost⟩ : ∃ post : Ending → World → Prop, post = REnd F w p.sync id := ⟨_, rfl⟩
  rw [← hpost]
  have HCP := Lib.hid hcp
  have HK0 := Lib.hid k0'
  have HX := Lib.hid (And.intro h (And.intro hok (And.intro hF (And.intro hb1 (And.intro k0 (And.intro k1 (And.intro s1 (And.intro hcs hpost))))))))
  clear h hok hF hb1 k0 k1 s1 hcs hpost hcp k0'
  unfold Z6 at hw1
  go_enter Tryz.func38, Tryz.ntmps38
  go_wp2_with (first | rw [hw1] | (refine wpList_load_row rfl _ _ rfl w.heap.size rfl _ _ (0, 0) _ HK0.out Tryz.underlying36 rfl HI6.out ?_))
  refine HCP.out.mono ?_
  rintro e w4 ⟨x1, rfl, hx1f, hx1k, ho4, hb4⟩
  obtain ⟨h, hok, hF, hb1, k0, k1, s1, hcs, hpost⟩ := HX.out
  obtain ⟨w5, hw5⟩ : ∃ w5, w4.setRow w.heap.size (rpcells p x1) = w5 := ⟨_, rfl⟩
  have h5 : RW F w w1.heap.size w5 p x1 := RW.start h hF hb1 k0 k1 ho4 hb4 hw5
  have hon1 := ho4.one
  have kb4 : PBox w4 w.heap.size cs := PBox.below HK0.out hb4 (PBox.lt HK0.out)
  have HSZ1 : Hid ((Tryz.prog.info? 36).map (·.size) = some (rpcells p x1).size) := rp_size p x1
  obtain ⟨md, hmd⟩ : ∃ md, p.dt.length = md := ⟨_, rfl⟩
  have hmdl : (md : Int) ≤ 1024 := by have := hok.sm.dt; omega
  have hmd0 : (0 : Int) ≤ (md : Int) := by omega
  obtain ⟨da, dc, edv, -, -⟩ := h5.rat.ds.form
  rw [hmd] at edv
  have b2 : w5.cell? ⟨w.heap.size, 2, none⟩ = some (.slice da md dc) := h5.box.cell 2 (by simp [rpcells, edv])
  have hfl : 0 < x1.fs.length := by have := hok.hand; have := h5.len.1; omega
  have hB5 := h5.Bsz hfl
  obtain ⟨cs1, hcs1⟩ : ∃ cs1, rpcells p x1 = cs1 := ⟨_, rfl⟩
  rw [hcs1] at hw5 hon1 HSZ1 ⊢
  have HKB4 := Lib.hid kb4
  have HON1 := Lib.hid hon1
  have H5 := Lib.hid (And.intro h5 (And.intro hmd (And.intro edv (And.intro hB5 (And.intro hcs1 hok)))))
  clear h hok hF hb1 k0 k1 s1 hcs hpost h5 hon1 kb4 hmd edv hfl hB5 hcs1 ho4 hb4 hx1f hx1k
  go_wp2_with (first | (refine wpList_store_row rfl _ _ _ rfl w.heap.size _ rfl rfl _ _ HKB4.out HSZ1.out (by have h1 := HI6.out; have h2 := HSZ1.out; rw [info6] at h1 h2; injection h1 with h1; injection h2 with h2; omega) HON1.out ?_; rw [hw5]))
  go_loopw [3, 4] (fun o i0 wr => ∃ (k n : Nat) (oa : Option Addr) (oc : Nat), k ≤ md ∧ i0 = .int .i64 (k : Int) ∧ o = .slice oa n oc ∧ n = ((p.dt.take k).filter (·.2.2)).length ∧ Below w5.heap.size w5 wr ∧
      wr.ownsRow w5.heap.size 48 3 (.slice oa n oc) ((p.dt.take k).filter (·.2.2)).length (mkc ((p.dt.take k).filter (·.2.2)))) (fun _ i0 _ => md - (RowKit.intOf i0).toNat)
  case atStart => exact ⟨0, 0, none, 0, Nat.zero_le _, rfl, rfl, rfl, Below.refl _ _, World.ownsRow_nil _ _ _ _⟩
  case round =>
    obtain ⟨k, n, oa, oc, hk, rfl, rfl, hn, hbr, hor⟩ := hrel
    obtain ⟨wq, rfl⟩ : ∃ wq : World, wq = wr := ⟨_, rfl⟩
    obtain ⟨h5, hmd, edv, hB5, hcs1, hok⟩ := H5.out
    have hr := h5.below hbr
    have hk0 : (0 : Int) ≤ (k : Int) := by omega
    have b2r : wq.cell? ⟨w.heap.size, 2, none⟩ = some (.slice da md dc) := hr.box.cell 2 (by simp [rpcells, edv])
    have hnk : n ≤ 1024 := by
      rw [hn]
      refine Nat.le_trans (List.length_filter_le _ _) ?_
      rw [List.length_take]
      omega
    rcases Nat.lt_or_eq_of_le hk with hlt | heq
    · obtain ⟨d, hd⟩ : ∃ d, p.dt[k]? = some d := ⟨_, List.getElem?_eq_getElem (by omega)⟩
      obtain ⟨dg, dc', edv', hdg, hdcl, hdz⟩ := hr.own.dcell hd
      rw [hmd, edv] at edv'
      injection edv' with e1 e2 e3
      subst e1 e3
      have hki : (k : Int) < (md : Int) := by omega
      have c2 := hdcl 2 _ (by decide) rfl
      have hft := filter_take_succ (fun (d : Int × (Nat × Bool)) => d.2.2) hd
      obtain ⟨⟨dp, dr, db⟩, hdd⟩ : ∃ q, d = q := ⟨_, rfl⟩
      subst hdd
      simp only at c2 hft
      cases db with
      | false =>
        rw [if_neg (by decide), List.append_nil] at hft
        have HM : Hid (n = ((p.dt.take (k + 1)).filter (·.2.2)).length ∧ Below w5.heap.size w5 wq ∧ wq.ownsRow w5.heap.size 48 3 (.slice oa n oc) ((p.dt.take (k + 1)).filter (·.2.2)).length (mkc ((p.dt.take (k + 1)).filter (·.2.2)))) := by
          rw [hft]; exact ⟨hn, hbr, hor⟩
        clear hft hd hdcl hdz hdg h5 hmd edv hB5 hcs1 hok hr hn hbr hor hnk hk
        go_wp2
        go_roundw
        case rel => exact ⟨k + 1, n, oa, oc, by omega, by go_num, rfl, HM.out⟩
        case measure => simp [RowKit.intOf]; omega
      | true =>
        rw [if_pos rfl] at hft
        have HRG : Hid (wq.rangeAt dg (k * 3) [.int .i64 dp, .int .u64 (dr : Int), .bool true]) := fun j v hv => hdcl j v (List.getElem?_eq_some_iff.1 hv).1 hv
        rw [← hn] at hor
        obtain ⟨R, cp, w9, hr9, ho9, hg9⟩ := push_row (ty := 32) Tryz.underlying32 rinfo_mk rfl (by decide) (by decide) (by decide) #[.int .i64 dp, .int .u64 (dr : Int), .bool true] rfl (by intro u hu; simp at hu; rcases hu with rfl | rfl | rfl <;> rfl) hor hbr.size (by omega)
        have hb9 : Below w5.heap.size w5 w9 := by
          have h1 := hbr.alloc hbr.size (.cells #[.int .i64 dp, .int .u64 (dr : Int), .bool true] 48)
          refine ⟨hg9.os.trans h1.os, hg9.tape.trans h1.tape, hg9.output.trans h1.output, Nat.le_trans h1.size hg9.size, fun j hj => ?_⟩
          rw [hg9.block j (Nat.lt_of_lt_of_le hj h1.size) (fun e => by have := (hor.lt j e.symm).1; omega)]
          exact h1.block j hj
        have HM : Hid (n + 1 = ((p.dt.take (k + 1)).filter (·.2.2)).length ∧ Below w5.heap.size w5 w9 ∧ w9.ownsRow w5.heap.size 48 3 (.slice (some ⟨R, 0, none⟩) (n + 1) cp) ((p.dt.take (k + 1)).filter (·.2.2)).length (mkc ((p.dt.take (k + 1)).filter (·.2.2)))) := by
          rw [hft, List.length_append, ← hn, mkc_push]
          exact ⟨rfl, hb9, ho9⟩
        have HR9 := Lib.hid hr9
        clear hft hd hdcl hdz hdg h5 hmd edv hB5 hcs1 hok hr hn hbr hor hnk hk hr9 ho9 hg9 hb9
        go_wp2_with (first | (refine wpList_load_mid rfl _ _ rfl dg (k * 3) rfl [.int .i64 dp, .int .u64 (dr : Int), .bool true] _ HRG.out Tryz.underlying48 rfl infoMk ?_) | (at_builtin; refine wpList_append_eq rfl rfl HR9.out rfl rfl ?_; clear HR9))
        go_roundw
        case rel => exact ⟨k + 1, n + 1, _, _, by omega, by go_num, rfl, HM.out⟩
        case measure => simp [RowKit.intOf]; omega
    · subst heq
      rw [← hmd, List.take_length] at hn hor
      have hnd := h5.newD hB5 (p.dt.filter (·.2.2)) (.slice oa n oc) hbr hor
      have hps : p.sync = { p with dt := p.dt.filter (·.2.2) } := rfl
      rw [← hps] at hnd
      obtain ⟨w6, hw6⟩ : ∃ w6, wq.setCell ⟨w.heap.size, 2, none⟩ (.slice oa n oc) = w6 := ⟨_, rfl⟩
      rw [hw6] at hnd
      obtain ⟨q, hq⟩ : ∃ q, p.sync = q := ⟨_, rfl⟩
      obtain ⟨xq, hxq⟩ : ∃ xq : RPV, xq = { x1 with dv := .slice oa n oc } := ⟨_, rfl⟩
      rw [hq, ← hxq] at hnd
      obtain ⟨w7, hw7, k7, ho7, hb7⟩ := hnd.ret
      have hone := hnd.own.one
      have hbx := hnd.box
      have hrs := hnd.res
      have z2 := hr.box.frozen 2
      have hsz := rp_size q xq
      obtain ⟨csq, hcsq⟩ : ∃ csq, rpcells q xq = csq := ⟨_, rfl⟩
      rw [hcsq] at hw7 k7 hbx hone hsz
      have hfin : post (.returned (.agg csq)) w7 := by
        obtain ⟨h, hok, hF, hb1, k0, k1, s1, hcs, hpost⟩ := HX.out
        rw [hpost, hq]
        exact ⟨xq, by rw [hcsq]; rfl, ho7.rat (fun _ h => h), hb7⟩
      have HBX := Lib.hid hbx
      have HSZ := Lib.hid hsz
      have HON := Lib.hid hone
      have HRS := Lib.hid hrs
      have HFIN := Lib.hid (And.intro k7 hfin)
      clear h5 hmd edv hB5 hcs1 hok hr hn hbr hor hnk hk hnd hps hq hxq k7 ho7 hb7 hone hbx hrs hsz hcsq hfin HX
      go_wp2_with (first | (refine wpList_load_row rfl _ _ rfl w.heap.size rfl _ _ (0, 0) _ HBX.out Tryz.underlying36 rfl HSZ.out ?_) | (refine wpList_store_row rfl _ _ _ rfl (w.heap.size + 1) _ rfl rfl _ _ HRS.out HSZ.out (by have := HSZ.out; rw [info6] at this; injection this) HON.out ?_; rw [hw7]))
      exact bodyPost_ret (by simp [results, Tryz.results38, asAddr, Act.put, run_loadVar_row w7 (w.heap.size + 1) 36 36 _ (0, 0) _ HFIN.out.1 Tryz.underlying36 rfl HSZ.out]) rfl HFIN.out.2
end
end Mun
end

section
/- Put of chapter 8's own pool. -/
set_option maxRecDepth 100000
set_option linter.unusedVariables false
set_option linter.unusedSimpArgs false
namespace Mun
open Go Go.RowKit
open Go.Proofs

/-- a part of a row -/
theorem RdV.cut {F : Foot} {w : World} {size n c : Nat} {a : Option Addr} {xs : List Value} (h : RdV F w size (.slice a n c) n xs) (lo hi : Nat) (h1 : lo ≤ hi) (h2 : hi ≤ n) :
    RdV F w size (sliced a lo hi c size) (hi - lo) ((xs.drop (lo * size)).take ((hi - lo) * size)) := by
  obtain ⟨h0, a', c', hv, hc1, hc2, hnil, h4⟩ := h
  injection hv with e1 e2 e3
  subst e1 e3
  have hm : (hi - lo) * size ≤ n * size - lo * size := by
    have h9 : (hi - lo) * size ≤ (n - lo) * size := Nat.mul_le_mul_right _ (by omega)
    rw [← Nat.sub_mul]; exact h9
  refine ⟨by rw [List.length_take, List.length_drop, h0]; omega, _, _, rfl, by omega, by omega, ?_, ?_⟩
  · intro hn
    split at hn
    · have := hnil hn; omega
    · cases a with
      | none => have := hnil rfl; omega
      | some _ => simp at hn
  · intro hp
    obtain ⟨g, off, cur, e, fr, ha, hg, hh, hx⟩ := h4 (by omega)
    subst ha
    refine ⟨g, off + lo * size, cur, e, fr, ?_, hg, hh, ?_⟩
    · rw [if_neg (by omega)]
      simp only [Option.map_some, addr_add]
    · rw [← hx, List.drop_take, List.take_take, List.drop_drop, Nat.min_eq_left hm]
section
variable {e t : TypeId} {z : Value} {size bytes : Nat}
theorem slcL (hinfo : (Tryz.prog.info? e).map (fun i => (i.zero, i.size, i.bytes)) = some (some z, size, bytes)) (ht : Tryz.prog.underlying t = some (.slice e)) (he : Tryz.prog.elem t = e) (a : Option Addr) (n c lo : Nat) (W : World) (L : Int) (hL : L = lo) (h1 : lo ≤ n) (h2 : n ≤ c) :
    (Instr.sliceAt t (.slice a n c) (some (.int .i64 L)) none none).run Tryz.prog W = .ok (sliced a lo n c size) W := by
  subst hL
  obtain ⟨i, hi', hz, hs1, hs2⟩ := info_of hinfo
  have ht2 : Tryz.prog.underlying t = some (.slice (Tryz.prog.elem t)) := by rw [he]; exact ht
  rw [run_sliceAt_slice _ _ _ _ _ _ ht2, run_slice_l _ _ _ _ _ ht2 _ _ (by omega) (by omega), he]
  simp [Go.sizeOf, typeInfo, hi', hs1]
theorem slcH (hinfo : (Tryz.prog.info? e).map (fun i => (i.zero, i.size, i.bytes)) = some (some z, size, bytes)) (ht : Tryz.prog.underlying t = some (.slice e)) (he : Tryz.prog.elem t = e) (a : Option Addr) (n c hi : Nat) (W : World) (H : Int) (hH : H = hi) (h2 : hi ≤ c) :
    (Instr.sliceAt t (.slice a n c) none (some (.int .i64 H)) none).run Tryz.prog W = .ok (sliced a 0 hi c size) W := by
  subst hH
  obtain ⟨i, hi', hz, hs1, hs2⟩ := info_of hinfo
  have ht2 : Tryz.prog.underlying t = some (.slice (Tryz.prog.elem t)) := by rw [he]; exact ht
  rw [run_sliceAt_slice _ _ _ _ _ _ ht2, run_slice_h _ _ _ _ _ ht2 _ _ (by omega) (by omega), he]
  simp [Go.sizeOf, typeInfo, hi', hs1]
end
theorem mkc_len (l : List (Int × (Nat × Bool))) : (mkc l).length = 3 * l.length := by
  unfold mkc
  induction l with
  | nil => rfl
  | cons p ps ih => rw [List.flatMap_cons, List.length_append, ih, List.length_cons]; simp [m3]; omega
theorem mkc_append (a b : List (Int × (Nat × Bool))) : mkc (a ++ b) = mkc a ++ mkc b := by simp [mkc]
theorem mkc_take (l : List (Int × (Nat × Bool))) (j : Nat) (hj : j ≤ l.length) : (mkc l).take (j * 3) = mkc (l.take j) := by
  have h : mkc l = mkc (l.take j) ++ mkc (l.drop j) := by rw [← mkc_append, List.take_append_drop]
  have hl : (mkc (l.take j)).length = j * 3 := by rw [mkc_len, List.length_take]; omega
  rw [h, ← hl, List.take_left]
theorem mkc_drop (l : List (Int × (Nat × Bool))) (j : Nat) (hj : j ≤ l.length) : (mkc l).drop (j * 3) = mkc (l.drop j) := by
  have h : mkc l = mkc (l.take j) ++ mkc (l.drop j) := by rw [← mkc_append, List.take_append_drop]
  have hl : (mkc (l.take j)).length = j * 3 := by rw [mkc_len, List.length_take]; omega
  rw [h, ← hl, List.drop_left]
theorem elemMk : Tryz.prog.elem 32 = 48 := by kernel_rfl

/-- a row of marks with one more in its midst, laid anew -/
theorem mk_insert {F : Foot} {w : World} {a : Option Addr} {n c : Nat} {l : List (Int × (Nat × Bool))} (h : RdV F w 3 (.slice a n c) n (mkc l)) (hn : l.length = n) (j : Nat) (hj : j ≤ n) (y : Int × (Nat × Bool)) (hl : n ≤ 1024) :
    ∃ (b6 : Option Addr) (c6 : Nat) (w6 : World) (R7 c7 : Nat) (w7 : World) (b8 : Option Addr) (c8 : Nat) (w8 : World),
      (Builtin.append_ #[32, 32] 32 #[.slice none 0 0, sliced a 0 j c 3]).run Tryz.prog w = .ok (.slice b6 j c6) w6 ∧
      (Builtin.append_ #[32, 32] 32 #[.slice b6 j c6, .slice (some ⟨w6.heap.size, 0, none⟩) 1 1]).run Tryz.prog (w6.alloc (.cells (m3 y).toArray 48)) = .ok (.slice (some ⟨R7, 0, none⟩) (j + 1) c7) w7 ∧
      (Builtin.append_ #[32, 32] 32 #[.slice (some ⟨R7, 0, none⟩) (j + 1) c7, sliced a j n c 3]).run Tryz.prog w7 = .ok (.slice b8 (n + 1) c8) w8 ∧
      Below w.heap.size w w6 ∧ Below w.heap.size w w7 ∧ Below w.heap.size w w8 ∧ w8.ownsRow w.heap.size 48 3 (.slice b8 (n + 1) c8) (n + 1) (mkc (l.take j ++ y :: l.drop j)) := by
  have p1 := h.cut 0 j (Nat.zero_le _) hj
  rw [Nat.sub_zero, Nat.zero_mul, List.drop_zero, mkc_take l j (by omega)] at p1
  obtain ⟨v6, w6, hr6, ho6, hb6⟩ := copy_row (ty := 32) Tryz.underlying32 rinfo_mk rfl (by decide) (by decide) (by decide) p1 (mkc_one _) (by omega)
  obtain ⟨b6, c6, -, e6, -, -⟩ : ∃ b6 c6, True ∧ v6 = .slice b6 j c6 ∧ True ∧ True := by
    rcases ho6.2 with ⟨e, e0⟩ | ⟨g, cap, cur, e, -⟩
    · exact ⟨_, _, trivial, by rw [e, e0], trivial, trivial⟩
    · exact ⟨_, _, trivial, e, trivial, trivial⟩
  subst e6
  obtain ⟨R7, c7, w7, hr7, ho7, hg7⟩ := push_row (ty := 32) Tryz.underlying32 rinfo_mk rfl (by decide) (by decide) (by decide) (m3 y).toArray rfl (by intro u hu; simp [m3] at hu; rcases hu with rfl | rfl | rfl <;> rfl) ho6 hb6.size (by omega)
  have hb7 : Below w.heap.size w w7 := by
    have h1 := hb6.alloc hb6.size (.cells (m3 y).toArray 48)
    refine ⟨hg7.os.trans h1.os, hg7.tape.trans h1.tape, hg7.output.trans h1.output, Nat.le_trans h1.size hg7.size, fun k hk => ?_⟩
    rw [hg7.block k (Nat.lt_of_lt_of_le hk h1.size) (fun e => by have := (ho6.lt k e.symm).1; omega)]
    exact h1.block k hk
  have p2 := RdV.cut (RdV.below h hb7) j n hj (Nat.le_refl _)
  rw [mkc_drop l j (by omega), List.take_of_length_le (by rw [mkc_len, List.length_drop]; omega)] at p2
  obtain ⟨i, hi, hz, h2, h3⟩ := info_of rinfo_mk
  obtain ⟨v8, w8, hr8, ho8, hg8, hob8, -⟩ := run_append_rd (P := Tryz.prog) (base := w.heap.size) (ty := 32) Tryz.underlying32 hi hz h2 h3 rfl (by decide) ho7 p2 (mkc_one _) (by omega) (by decide) hb7.size
  rw [show j + 1 + (n - j) = n + 1 by omega] at ho8
  obtain ⟨b8, c8, e8⟩ : ∃ b8 c8, v8 = .slice b8 (n + 1) c8 := by
    rcases ho8.2 with ⟨e, e0⟩ | ⟨g, cap, cur, e, -⟩
    · omega
    · exact ⟨_, _, e⟩
  subst e8
  have hb8 : Below w.heap.size w w8 := by
    refine ⟨hg8.os.trans hb7.os, hg8.tape.trans hb7.tape, hg8.output.trans hb7.output, Nat.le_trans hb7.size hg8.size, fun k hk => ?_⟩
    rw [hg8.block k (Nat.lt_of_lt_of_le hk hb7.size) (fun e => by have := (ho7.lt k e.symm).1; omega)]
    exact hb7.block k hk
  refine ⟨b6, c6, w6, R7, c7, w7, b8, c8, w8, hr6, hr7, hr8, hb6, hb7, hb8, ?_⟩
  have e9 : mkc (l.take j) ++ (m3 y).toArray.toList ++ mkc (l.drop j) = mkc (l.take j ++ y :: l.drop j) := by
    rw [mkc_append, List.append_assoc]
    congr 1
  rw [← e9]
  exact ho8

/-- behind the last mark of a smaller page among the first k -/
def atTo (dt : List (Int × (Nat × Bool))) (n : Int) : Nat → Nat
  | 0 => 0
  | k + 1 => match dt[k]? with
    | none => atTo dt n k
    | some d => if d.1 < n then k + 1 else atTo dt n k
theorem atTo_le (dt : List (Int × (Nat × Bool))) (n : Int) : ∀ k, atTo dt n k ≤ k
  | 0 => Nat.le_refl _
  | k + 1 => by
    have := atTo_le dt n k
    unfold atTo
    split
    · omega
    · split <;> omega
def mkOn (d : Int × (Nat × Bool)) : Int × (Nat × Bool) := (d.1, (d.2.1, true))
def rput (dt : List (Int × (Nat × Bool))) (n : Int) (lsn : Nat) : List (Int × (Nat × Bool)) :=
  match dt.findIdx? (·.1 == n) with
  | some k => match dt[k]? with
    | none => dt
    | some d => dt.set k (mkOn d)
  | none => dt.take (atTo dt n dt.length) ++ (n, (lsn, true)) :: dt.drop (atTo dt n dt.length)
def RF.putF (f : RF) (b : Bytes) (lsn : Nat) : RF := { f with b := sealP b lsn, lsn := lsn, chg := true }
noncomputable def RP.put (p : RP) (n : Int) (b : Bytes) (lsn : Nat) : RP × Int := match p.held n with
  | none => (p, 18)
  | some i => if goodB b = false then (p, 4) else match p.fr[i]? with
    | none => (p, 18)
    | some f => ({ p with fr := p.fr.set i (f.putF b lsn), dt := rput p.dt n lsn }, 0)
end Mun
end

section
/- Put of chapter 8's own pool: the walk. -/
set_option maxRecDepth 100000
set_option linter.unusedVariables false
set_option linter.unusedSimpArgs false
namespace Mun
open Go Go.RowKit
open Go.Proofs

section
variable {F F0 : Foot} {w : World} {p : RP} {x : RPV}

set_option maxHeartbeats 8000000 in
theorem rp_put (h : RAt F w p x) (hok : p.Ok) (hF : ∀ k, F k → k < w.heap.size) (n : Int) (bv : Value) (b : Bytes) (hbv : RdB F0 w bv b) (lsn : Nat) (hl64 : lsn < 18446744073709551616) :
    Calls Tryz.prog 35 #[.agg (rpcells p x), .int .i64 n, bv, .int .u64 lsn] w (REnd F w (p.put n b lsn).1 (withE (p.put n b lsn).2)) := by
  obtain ⟨w1, hw1, hb1, k0, k1, s1⟩ := rp_boxes w (rpcells p x) rfl
  have h1 := h.below hb1
  have hhd := rp_held h1 hok.sm.fr n
  obtain ⟨cs, hcs⟩ : ∃ cs, rpcells p x = cs := ⟨_, rfl⟩
  have HI6 : Hid ((Tryz.prog.info? 36).map (·.size) = some cs.size) := by rw [← hcs]; exact info6
  have hone := h.one
  rw [hcs] at hw1 hhd k0 hone ⊢
  obtain ⟨post, hpost⟩ : ∃ post : Ending → World → Prop, post = REnd F w (p.put n b lsn).1 (withE (p.put n b lsn).2) := ⟨_, rfl⟩
  rw [← hpost]
  obtain ⟨ba, bn, bc, rfl, hbn, -, -⟩ := hbv.formN
  have HHD := Lib.hid hhd
  have HK0 := Lib.hid k0
  have HONE := Lib.hid hone
  have HX := Lib.hid (And.intro h (And.intro hok (And.intro hF (And.intro hb1 (And.intro k1 (And.intro s1 (And.intro hcs (And.intro hpost (And.intro hbv (And.intro hl64 hbn))))))))))
  clear h hok hF hb1 k0 k1 s1 h1 hcs hpost hone hhd hbv hl64 hbn
  unfold Z6 at hw1
  go_enter Tryz.func35, Tryz.ntmps35
  go_wp2_with (first | rw [hw1] | (refine wpList_load_row rfl _ _ rfl w.heap.size rfl _ _ (0, 0) _ HK0.out Tryz.underlying36 rfl HI6.out ?_))
  refine HHD.out.mono ?_
  rintro e w2 ⟨rfl, hb2⟩
  have hk02 : PBox w2 w.heap.size cs := PBox.below HK0.out hb2 (PBox.lt HK0.out)
  have HK2 := Lib.hid hk02
  have hbw2 : Below w.heap.size w w2 := by obtain ⟨h, hok, hF, hb1, -⟩ := HX.out; exact hb1.trans (hb2.mono hb1.size)
  have HB2 := Lib.hid (And.intro hb2 hbw2)
  clear hb2 hbw2 hk02 HHD
  cases hh : p.held n with
  | none =>
    obtain ⟨w3, hw3⟩ : ∃ w3, w2.setRow (w.heap.size + 1) cs = w3 := ⟨_, rfl⟩
    have HFIN : Hid (PBox w2 (w.heap.size + 1) Z6 ∧ PBox w3 (w.heap.size + 1) cs ∧ post (.returned (.tuple #[.agg cs, .int .i64 18])) w3) := by
      obtain ⟨h, hok, hF, hb1, k1, s1, hcs, hpost, hbv, hl64, hbn⟩ := HX.out
      have k12 := k1.below HB2.out.1 k1.lt
      have hb3 : Below w.heap.size w w3 := by rw [← hw3]; exact below_setRow HB2.out.2 (by omega) _
      refine ⟨k12, by rw [← hw3]; exact k12.row _, ?_⟩
      have he : p.put n b lsn = (p, 18) := by unfold RP.put; rw [hh]
      rw [hpost, he]
      exact ⟨x, by rw [hcs], h.below hb3, hb3⟩
    clear HX HB2 hh
    simp only [idxV]
    go_wp2_with (first | (refine wpList_load_row rfl _ _ rfl w.heap.size rfl _ _ (0, 0) _ HK2.out Tryz.underlying36 rfl HI6.out ?_) | (refine wpList_store_row rfl _ _ _ rfl (w.heap.size + 1) _ rfl rfl _ _ HFIN.out.1 HI6.out (by have := HI6.out; rw [info6] at this; injection this) HONE.out ?_; rw [hw3]))
    exact bodyPost_ret (v := .tuple #[.agg cs, .int .i64 18]) (by simp [results, Tryz.results35, asAddr, Act.put, run_loadVar_row w3 (w.heap.size + 1) 36 36 _ (0, 0) _ HFIN.out.2.1 Tryz.underlying36 rfl HI6.out]) rfl HFIN.out.2.2
  | some i =>
    have hgd : Calls Tryz.prog 20 #[.slice ba bn bc] w2 fun e w' => e = .returned (.bool (goodB b)) ∧ Below w2.heap.size w2 w' := by
      obtain ⟨h, hok, hF, hb1, k1, s1, hcs, hpost, hbv, hl64, hbn⟩ := HX.out
      exact r5good w2 _ b (hbv.below HB2.out.2)
    have HGD := Lib.hid hgd
    have hi0 : (0 : Int) ≤ (i : Int) := by omega
    have hin : ¬ (i : Int) < 0 := by omega
    clear hgd
    simp only [idxV]
    go_wp2_with fail
    refine HGD.out.mono ?_
    rintro e w3 ⟨rfl, hb3⟩
    have hk03 : PBox w3 w.heap.size cs := PBox.below HK2.out hb3 (PBox.lt HK2.out)
    have hbw3 : Below w.heap.size w w3 := HB2.out.2.trans (hb3.mono HB2.out.2.size)
    have HK3 := Lib.hid hk03
    have HB3 := Lib.hid (And.intro hb3 hbw3)
    clear hk03 hbw3 hb3 HGD
    cases hg : goodB b with
    | false =>
      obtain ⟨w4, hw4⟩ : ∃ w4, w3.setRow (w.heap.size + 1) cs = w4 := ⟨_, rfl⟩
      have HFIN : Hid (PBox w3 (w.heap.size + 1) Z6 ∧ PBox w4 (w.heap.size + 1) cs ∧ post (.returned (.tuple #[.agg cs, .int .i64 4])) w4) := by
        obtain ⟨h, hok, hF, hb1, k1, s1, hcs, hpost, hbv, hl64, hbn⟩ := HX.out
        have k12 := k1.below HB2.out.1 k1.lt
        have k13 := k12.below HB3.out.1 k12.lt
        have hb4 : Below w.heap.size w w4 := by rw [← hw4]; exact below_setRow HB3.out.2 (by omega) _
        refine ⟨k13, by rw [← hw4]; exact k13.row _, ?_⟩
        have he : p.put n b lsn = (p, 4) := by unfold RP.put; rw [hh]; simp only; rw [if_pos hg]
        rw [hpost, he]
        exact ⟨x, by rw [hcs], h.below hb4, hb4⟩
      clear HX HB2 HB3 hh hg
      go_wp2_with (first | (refine wpList_load_row rfl _ _ rfl w.heap.size rfl _ _ (0, 0) _ HK3.out Tryz.underlying36 rfl HI6.out ?_) | (refine wpList_store_row rfl _ _ _ rfl (w.heap.size + 1) _ rfl rfl _ _ HFIN.out.1 HI6.out (by have := HI6.out; rw [info6] at this; injection this) HONE.out ?_; rw [hw4]))
      exact bodyPost_ret (v := .tuple #[.agg cs, .int .i64 4]) (by simp [results, Tryz.results35, asAddr, Act.put, run_loadVar_row w4 (w.heap.size + 1) 36 36 _ (0, 0) _ HFIN.out.2.1 Tryz.underlying36 rfl HI6.out]) rfl HFIN.out.2.2
    | true =>
      have hcp : Calls Tryz.prog 74 #[.agg cs] w3 (CpPost (inF F w w3.heap.size) w3 p x) := by
        obtain ⟨h, hok, hF, hb1, k1, s1, hcs, hpost, hbv, hl64, hbn⟩ := HX.out
        rw [← hcs]
        exact rp_copied (h.inF HB3.out.2 _) hok.sm (inF_lt hF HB3.out.2)
      have HCP := Lib.hid hcp
      have HGB := Lib.hid (And.intro hh hg)
      clear hcp hh hg
      go_wp2_with (first | (refine wpList_load_row rfl _ _ rfl w.heap.size rfl _ _ (0, 0) _ HK3.out Tryz.underlying36 rfl HI6.out ?_))
      refine HCP.out.mono ?_
      rintro e w4 ⟨x1, rfl, hx1f, hx1k, ho4, hb4⟩
      obtain ⟨h, hok, hF, hb1, k1, s1, hcs, hpost, hbv, hl64, hbn⟩ := HX.out
      obtain ⟨hh, hg⟩ := HGB.out
      obtain ⟨hn0, hfi, f, hfp, hfpin⟩ := RP.held_some hh
      have hgp : GoodP b := by
        by_cases hc : GoodP b
        · exact hc
        · rw [goodB_false hc] at hg; cases hg
      have hb512 : b.length = 512 := hgp.len
      rw [hb512] at hbn
      subst hbn
      obtain ⟨w5, hw5⟩ : ∃ w5, w4.setRow w.heap.size (rpcells p x1) = w5 := ⟨_, rfl⟩
      have k13 := (k1.below HB2.out.1 k1.lt)
      have h5 : RW F w w3.heap.size w5 p x1 := RW.start h hF HB3.out.2 (show PBox w3 w.heap.size (rpcells p x) by rw [hcs]; exact HK3.out) (k13.below HB3.out.1 k13.lt) ho4 hb4 hw5
      have hon1 := ho4.one
      have kb4 : PBox w4 w.heap.size cs := PBox.below HK3.out hb4 (PBox.lt HK3.out)
      have HSZ1 : Hid ((Tryz.prog.info? 36).map (·.size) = some (rpcells p x1).size) := rp_size p x1
      obtain ⟨fv, hfv, hfv1⟩ := h5.rat.at_ (List.getElem?_eq_some_iff.1 hfp).1
      rw [hfp] at hfv1
      injection hfv1 with hfv1
      obtain ⟨fg, fc, efv, hfg, hfcl, hfz⟩ := h5.own.fcell hfv
      obtain ⟨m, hm⟩ : ∃ m, x1.fs.length = m := ⟨_, rfl⟩
      have him : (i : Int) < (m : Int) := by have := (List.getElem?_eq_some_iff.1 hfp).1; have := h5.len.1; omega
      have a0 : w5.cell? ⟨w.heap.size, 0, none⟩ = some (.slice (some ⟨fg, 0, none⟩) m fc) := h5.box.cell 0 (by simp [rpcells, efv, hm])
      have hsl := r5seal w5.drew (.slice ba 512 bc) b lsn (hbv.below (below_drewN h5.bl 1)) hb512 hl64
      obtain ⟨cs1, hcs1⟩ : ∃ cs1, rpcells p x1 = cs1 := ⟨_, rfl⟩
      rw [hcs1] at hw5 hon1 HSZ1 ⊢
      have HKB4 := Lib.hid kb4
      have HON1 := Lib.hid hon1
      have HSL := Lib.hid hsl
      have H5 := Lib.hid (And.intro h5 (And.intro hfv (And.intro hfv1 (And.intro efv (And.intro hfg (And.intro hfcl (And.intro hfz (And.intro hm (And.intro hh (And.intro hg (And.intro hfp hn0)))))))))))
      clear h hok hF hb1 k1 s1 hcs hpost hbv hl64 hh hg hn0 hfi hfp hfpin hgp hb512 k13 h5 hon1 kb4 hfv hfv1 efv hfg hfcl hfz hm hsl hcs1 ho4 hb4 hx1f hx1k HCP HGB
      have hS0 : w5.drew.cell? ⟨w.heap.size, 0, none⟩ = some (.slice (some ⟨fg, 0, none⟩) m fc) := a0
      go_upto_region 7 with (first | (refine wpList_store_row rfl _ _ _ rfl w.heap.size _ rfl rfl _ _ HKB4.out HSZ1.out (by have h1 := HI6.out; have h2 := HSZ1.out; rw [info6] at h1 h2; injection h1 with h1; injection h2 with h2; omega) HON1.out ?_; rw [hw5]))
      refine wp_region_U (fun W => W.cell? ⟨w.heap.size, 0, none⟩ = some (.slice (some ⟨fg, 0, none⟩) m fc)) [8] (by kernel_rfl) ?_
      refine wpAnyU_take (i := 0) [1, 6, 7, 8] rfl (by as_aux_lemma => kernel_rfl) (by as_aux_lemma => kernel_rfl) (by as_aux_lemma => kernel_rfl) (by as_aux_lemma => kernel_rfl) (by as_aux_lemma => kernel_rfl) (by as_aux_lemma => kernel_rfl) (fun _ _ _ h => h) (Or.inl ⟨by rfl, (by intro W hSW; (try dsimp only at hSW); (try go_split_ands); go_simp <;> with_reducible rfl)⟩) hS0 ?_
      try simp only [Act.put, List.getElem_toArray, List.getElem_cons_succ, List.getElem_cons_zero, List.setIfInBounds_toArray, List.set_cons_zero, List.set_cons_succ]
      refine wpAnyU_take (i := 1) [6, 7, 8] rfl (by as_aux_lemma => kernel_rfl) (by as_aux_lemma => kernel_rfl) (by as_aux_lemma => kernel_rfl) (by as_aux_lemma => kernel_rfl) (by as_aux_lemma => kernel_rfl) (by as_aux_lemma => kernel_rfl) (fun _ _ _ h => h) (Or.inl ⟨by rfl, (by intro W hSW; (try dsimp only at hSW); (try go_split_ands); go_simp <;> with_reducible rfl)⟩) hS0 ?_
      try simp only [Act.put, List.getElem_toArray, List.getElem_cons_succ, List.getElem_cons_zero, List.setIfInBounds_toArray, List.set_cons_zero, List.set_cons_succ]
      refine wpAnyU_take (i := 2) [6, 7, 8] rfl (by as_aux_lemma => kernel_rfl) (by as_aux_lemma => kernel_rfl) (by as_aux_lemma => kernel_rfl) (by as_aux_lemma => kernel_rfl) (by as_aux_lemma => kernel_rfl) (by as_aux_lemma => kernel_rfl) (fun _ _ _ h => h) (Or.inl ⟨by rfl, (by intro W hSW; (try dsimp only at hSW); (try go_split_ands); go_simp <;> with_reducible rfl)⟩) hS0 ?_
      try simp only [Act.put, List.getElem_toArray, List.getElem_cons_succ, List.getElem_cons_zero, List.setIfInBounds_toArray, List.set_cons_zero, List.set_cons_succ]
      refine wpAnyU_take (i := 3) [5, 6, 7, 8] rfl (by as_aux_lemma => kernel_rfl) (by as_aux_lemma => kernel_rfl) (by as_aux_lemma => kernel_rfl) (by as_aux_lemma => kernel_rfl) (by as_aux_lemma => kernel_rfl) (by as_aux_lemma => kernel_rfl) (fun _ _ _ h => h) (Or.inl ⟨by rfl, (by intro W hSW; (try dsimp only at hSW); (try go_split_ands); go_simp <;> with_reducible rfl)⟩) hS0 ?_
      try simp only [Act.put, List.getElem_toArray, List.getElem_cons_succ, List.getElem_cons_zero, List.setIfInBounds_toArray, List.set_cons_zero, List.set_cons_succ]
      refine wpAnyU_take (i := 4) [5, 6, 7, 8] rfl (by as_aux_lemma => kernel_rfl) (by as_aux_lemma => kernel_rfl) (by as_aux_lemma => kernel_rfl) (by as_aux_lemma => kernel_rfl) (by as_aux_lemma => kernel_rfl) (by as_aux_lemma => kernel_rfl) (fun _ _ _ h => h) (Or.inl ⟨by rfl, (by intro W hSW; (try dsimp only at hSW); (try go_split_ands); go_simp <;> with_reducible rfl)⟩) hS0 ?_
      try simp only [Act.put, List.getElem_toArray, List.getElem_cons_succ, List.getElem_cons_zero, List.setIfInBounds_toArray, List.set_cons_zero, List.set_cons_succ]
      refine wpAnyU_one (i := 5) (by kernel_rfl) rfl (fun K hK => ?_)
      go_simp
      go_at_call 22
      (with_reducible refine HSL.out.mono ?_)
      rintro e w6 ⟨bg, bcap, rfl, hpw, hb6⟩
      have hS1 : w6.cell? ⟨w.heap.size, 0, none⟩ = some (.slice (some ⟨fg, 0, none⟩) m fc) := by rw [World.cell?_of_block (hb6.block _ (World.block_lt_of_cell? _ _ hS0))]; exact hS0
      have HPW := Lib.hid (And.intro hpw hb6)
      have hk3 : w6.cell? ⟨fg, i * 6 + 3, none⟩ = some fv.2 := by
        obtain ⟨h5, hfv, hfv1, efv, hfg, hfcl, hfz, -⟩ := H5.out
        rw [World.cell?_of_block (hb6.block fg hfg.2)]; exact hfcl 3 _ (by decide) rfl
      have hz3 : w6.frozen? ⟨fg, i * 6 + 3, none⟩ = false := by
        obtain ⟨h5, hfv, hfv1, efv, hfg, hfcl, hfz, -⟩ := H5.out
        rw [World.frozen?_of_block (hb6.block fg hfg.2)]; exact hfz _
      clear hpw hb6
      refine hK.out _ _ (fun _ => hS1) (fun _ => ?_)
      clear hK K
      try simp only [Act.put, List.getElem_toArray, List.getElem_cons_succ, List.getElem_cons_zero, List.setIfInBounds_toArray, List.set_cons_zero, List.set_cons_succ]
      refine wpAnyU_take (i := 6) [7, 8] rfl (by as_aux_lemma => kernel_rfl) (by as_aux_lemma => kernel_rfl) (by as_aux_lemma => kernel_rfl) (by as_aux_lemma => kernel_rfl) (by as_aux_lemma => kernel_rfl) (by as_aux_lemma => kernel_rfl) (fun _ _ _ h => h) (Or.inl ⟨by rfl, (by intro W hSW; (try dsimp only at hSW); (try go_split_ands); go_simp <;> with_reducible rfl)⟩) hS1 ?_
      try simp only [Act.put, List.getElem_toArray, List.getElem_cons_succ, List.getElem_cons_zero, List.setIfInBounds_toArray, List.set_cons_zero, List.set_cons_succ]
      refine wpAnyU_take (i := 7) [8] rfl (by as_aux_lemma => kernel_rfl) (by as_aux_lemma => kernel_rfl) (by as_aux_lemma => kernel_rfl) (by as_aux_lemma => kernel_rfl) (by as_aux_lemma => kernel_rfl) (by as_aux_lemma => kernel_rfl) (fun _ _ _ h => h) (Or.inl ⟨by rfl, (by intro W hSW; (try dsimp only at hSW); (try go_split_ands); go_simp <;> with_reducible rfl)⟩) hS1 ?_
      try simp only [Act.put, List.getElem_toArray, List.getElem_cons_succ, List.getElem_cons_zero, List.setIfInBounds_toArray, List.set_cons_zero, List.set_cons_succ]
      refine wpAnyU_one (i := 8) (by kernel_rfl) rfl (fun K hK => ?_)
      go_simp
      refine hK.out _ _ (fun h => absurd h (by decide)) (fun _ => ?_)
      clear hK K
      try simp only [Act.put, List.getElem_toArray, List.getElem_cons_succ, List.getElem_cons_zero, List.setIfInBounds_toArray, List.set_cons_zero, List.set_cons_succ]
      refine wpAnyU_done (by kernel_rfl) ?_ _
      obtain ⟨h5, hfv, hfv1, efv, hfg, hfcl, hfz, hm, hh, hg, hfp, hn0⟩ := H5.out
      obtain ⟨hpw, hb6⟩ := HPW.out
      have h6 : RW F w w3.heap.size w6 p x1 := (show RW F w w3.heap.size w5.drew p x1 from h5.below (below_drewN (Below.refl _ _) 1)).below hb6
      have hbg := hpw.lt
      have hdsz : w5.drew.heap.size = w5.heap.size := rfl
      have hrd : ∀ (wq : World) (xq : RPV), RW F w w3.heap.size wq p x1 → xq.fv = x1.fv → xq.dv = x1.dv → xq.kv = x1.kv → True := fun _ _ _ _ _ _ => trivial
      have hrb : RdB (fun q => inF F w w3.heap.size q ∨ x1.blk q) w6 (.slice (some ⟨bg, 0, none⟩) 512 bcap) (sealP b lsn) := hpw.rd (fun h9 => by
        have hlo := h5.lo
        have hB := h5.Bsz (by have := (List.getElem?_eq_some_iff.1 hfv).1; omega)
        rcases h9 with h9 | h9 | h9 | h9
        · have := hlo _ h9; omega
        · have := (h5.own.fs.lt _ h9).2; omega
        · have := (h5.own.ds.lt _ h9).2; omega
        · have := (h5.own.ks.lt _ h9).2; omega)
      obtain ⟨w7, hw7⟩ : ∃ w7, w6.setCell ⟨fg, i * 6 + 3, none⟩ (.slice (some ⟨bg, 0, none⟩) 512 bcap) = w7 := ⟨_, rfl⟩
      obtain ⟨f7, hf7⟩ : ∃ f7 : RFV, f7 = ({ fv.1 with b := sealP b lsn }, .slice (some ⟨bg, 0, none⟩) 512 bcap) := ⟨_, rfl⟩
      have h7 := h6.setF (i := i) (k := 3) (f := fv) (f' := f7) (u := .slice (some ⟨bg, 0, none⟩) 512 bcap) hfv (by decide) (by rw [hf7]; rfl) (by rw [hf7]; exact hrb) efv
      rw [hw7] at h7
      have hilt := (List.getElem?_eq_some_iff.1 hfv).1
      have hf7x : ({ x1 with fs := x1.fs.set i f7 } : RPV).fs[i]? = some f7 := by simp [hilt]
      obtain ⟨w8, hw8⟩ : ∃ w8, w7.setCell ⟨fg, i * 6 + 4, none⟩ (.int .u64 (lsn : Int)) = w8 := ⟨_, rfl⟩
      obtain ⟨f8, hf8⟩ : ∃ f8 : RFV, f8 = ({ f7.1 with lsn := lsn }, f7.2) := ⟨_, rfl⟩
      have efv7 : ({ x1 with fs := x1.fs.set i f7 } : RPV).fv = .slice (some ⟨fg, 0, none⟩) ({ x1 with fs := x1.fs.set i f7 } : RPV).fs.length fc := by
        show x1.fv = _
        rw [efv]; simp
      have h8 := h7.setF (i := i) (k := 4) (f := f7) (f' := f8) (u := .int .u64 (lsn : Int)) hf7x (by decide) (by rw [hf8]; rfl) (by rw [hf8]; exact h7.own.fb f7 (List.mem_of_getElem? hf7x)) efv7
      rw [hw8] at h8
      simp only [List.set_set] at h8
      obtain ⟨w9, hw9⟩ : ∃ w9, w8.setCell ⟨fg, i * 6 + 5, none⟩ (.bool true) = w9 := ⟨_, rfl⟩
      obtain ⟨f9, hf9⟩ : ∃ f9 : RFV, f9 = ({ f8.1 with chg := true }, f8.2) := ⟨_, rfl⟩
      have hf8x : ({ x1 with fs := x1.fs.set i f8 } : RPV).fs[i]? = some f8 := by simp [hilt]
      have efv8 : ({ x1 with fs := x1.fs.set i f8 } : RPV).fv = .slice (some ⟨fg, 0, none⟩) ({ x1 with fs := x1.fs.set i f8 } : RPV).fs.length fc := by
        show x1.fv = _
        rw [efv]; simp
      have h9 := h8.setF (i := i) (k := 5) (f := f8) (f' := f9) (u := .bool true) hf8x (by decide) (by rw [hf9]; rfl) (by rw [hf9]; exact h8.own.fb f8 (List.mem_of_getElem? hf8x)) efv8
      rw [hw9] at h9
      simp only [List.set_set] at h9
      have hf9e : f9.1 = f.putF b lsn := by rw [hf9, hf8, hf7, hfv1]; rfl
      rw [hf9e] at h9
      obtain ⟨P, hP⟩ : ∃ P : RP, P = { p with fr := p.fr.set i (f.putF b lsn) } := ⟨_, rfl⟩
      obtain ⟨x9, hx9⟩ : ∃ x9 : RPV, x9 = { x1 with fs := x1.fs.set i f9 } := ⟨_, rfl⟩
      rw [← hP, ← hx9] at h9
      have a70 : w7.cell? ⟨w.heap.size, 0, none⟩ = some (.slice (some ⟨fg, 0, none⟩) m fc) := h7.box.cell 0 (by simp [rpcells, efv, hm])
      have a80 : w8.cell? ⟨w.heap.size, 0, none⟩ = some (.slice (some ⟨fg, 0, none⟩) m fc) := h8.box.cell 0 (by simp [rpcells, efv, hm])
      obtain ⟨g7, c7', e7', -, hcl7, hzz7⟩ := h7.own.fcell hf7x
      obtain ⟨g8, c8', e8', -, hcl8, hzz8⟩ := h8.own.fcell hf8x
      have eg7 : g7 = fg := by rw [efv7] at e7'; injection e7' with e7'; injection e7' with e7'; injection e7' with e7'; exact e7'.symm
      have eg8 : g8 = fg := by rw [efv8] at e8'; injection e8' with e8'; injection e8' with e8'; injection e8' with e8'; exact e8'.symm
      rw [eg7] at hcl7 hzz7
      rw [eg8] at hcl8 hzz8
      have a74 : w7.cell? ⟨fg, i * 6 + 4, none⟩ = some (.int .u64 (f7.1.lsn : Int)) := hcl7 4 _ (by decide) rfl
      have z74 := hzz7 (i * 6 + 4)
      have a85 : w8.cell? ⟨fg, i * 6 + 5, none⟩ = some (.bool f8.1.chg) := hcl8 5 _ (by decide) rfl
      have z85 := hzz8 (i * 6 + 5)
      obtain ⟨md, hmd⟩ : ∃ md, p.dt.length = md := ⟨_, rfl⟩
      have hmdl : (md : Int) ≤ 1024 := by obtain ⟨-, hok, -⟩ := HX.out; have := hok.sm.dt; omega
      have hmd0 : (0 : Int) ≤ (md : Int) := by omega
      have hPd : P.dt = p.dt := by rw [hP]
      obtain ⟨da, dc, edv, -, -⟩ := h9.rat.ds.form
      rw [hPd, hmd] at edv
      have b29 : w9.cell? ⟨w.heap.size, 2, none⟩ = some (.slice da md dc) := h9.box.cell 2 (by simp [rpcells, edv])
      have hB9 := h9.Bsz (by rw [hx9]; simp; omega)
      have hput : p.put n b lsn = ({ P with dt := rput p.dt n lsn }, 0) := by
        unfold RP.put
        rw [hh]
        simp only
        rw [if_neg (by rw [hg]; decide), hfp, hP]
      have H9 := Lib.hid (And.intro h9 (And.intro hPd (And.intro hmd (And.intro edv (And.intro hB9 hput)))))
      clear h5 hfv hfv1 efv hfg hfcl hfz hm hh hg hfp hn0 hpw hb6 h6 hbg hdsz hrd hrb h7 hilt hf7x efv7 h8 hf8x efv8 h9 hf9e hP hx9 hmd hPd edv e7' hcl7 hzz7 e8' hcl8 hzz8 hB9 hput hf7 hf8 hf9 H5 HPW HSL HKB4 HON1 HSZ1 hS0 hS1 hk3 hz3 eg7 eg8
      go_wp2
      go_loopw [11, 9] (fun i0 _ wr => ∃ k : Nat, k ≤ md ∧ i0 = .int .i64 (k : Int) ∧ wr = w9 ∧ ∀ (a : Nat) (d : Int × (Nat × Bool)), p.dt[a]? = some d → a < k → d.1 ≠ n) (fun i0 _ _ => md - (RowKit.intOf i0).toNat)
      case atStart => exact ⟨0, Nat.zero_le _, rfl, rfl, fun a d _ h => absurd h (by omega)⟩
      case round =>
        obtain ⟨k, hk, rfl, hwq, hno⟩ := hrel
        subst hwq
        obtain ⟨h9, hPd, hmd, edv, hB9, hput⟩ := H9.out
        have hk0 : (0 : Int) ≤ (k : Int) := by omega
        rcases Nat.lt_or_eq_of_le hk with hlt | heq
        · obtain ⟨d, hd⟩ : ∃ d, p.dt[k]? = some d := ⟨_, List.getElem?_eq_getElem (by omega)⟩
          obtain ⟨dg, dc', edv', hdg, hdcl, hdz⟩ := h9.own.dcell (show P.dt[k]? = some d by rw [hPd]; exact hd)
          rw [hPd, hmd, edv] at edv'
          injection edv' with e1 e2 e3
          subst e1 e3
          have hki : (k : Int) < (md : Int) := by omega
          have c0 := hdcl 0 _ (by decide) rfl
          rw [Nat.add_zero] at c0
          have c2 := hdcl 2 _ (by decide) rfl
          have z2 := hdz (k * 3 + 2)
          obtain ⟨dp, hdp⟩ : ∃ dp, d.1 = dp := ⟨_, rfl⟩
          rw [hdp] at c0
          by_cases hpe : dp = n
          · obtain ⟨we, hwe⟩ : ∃ we, wr.setCell ⟨dg, k * 3 + 2, none⟩ (.bool true) = we := ⟨_, rfl⟩
            have h8 := h9.setD (i := k) (k := 2) (d := d) (d' := mkOn d) (u := .bool true) (by rw [hPd]; exact hd) (by decide) (by rfl) (c := dc) (by rw [edv, hPd, hmd])
            rw [hwe] at h8
            have hrp : rput p.dt n lsn = p.dt.set k (mkOn d) := by
              unfold rput
              rw [findIdx_step _ _ k (fun a y hy ha => by simpa using hno a y hy ha) d hd (by simp [hdp, hpe])]
              simp only
              rw [hd]
            rw [hPd, ← hrp] at h8
            obtain ⟨q, hq⟩ : ∃ q : RP, q = { P with dt := rput p.dt n lsn } := ⟨_, rfl⟩
            rw [← hq] at h8 hput
            obtain ⟨w10, hw10, k10, ho10, hb10⟩ := h8.ret
            have hone := h8.own.one
            have hbx := h8.box
            have hrs := h8.res
            have hsz := rp_size q x9
            obtain ⟨csq, hcsq⟩ : ∃ csq, rpcells q x9 = csq := ⟨_, rfl⟩
            rw [hcsq] at hw10 k10 hbx hone hsz
            have hfin : post (.returned (.tuple #[.agg csq, .int .i64 0])) w10 := by
              obtain ⟨-, -, -, -, -, -, -, hpost, -⟩ := HX.out
              rw [hpost, hput]
              exact ⟨x9, by rw [hcsq], ho10.rat (fun _ h => h), hb10⟩
            have HBX := Lib.hid hbx
            have HSZ := Lib.hid hsz
            have HON := Lib.hid hone
            have HRS := Lib.hid hrs
            have HFIN := Lib.hid (And.intro k10 hfin)
            clear hno h9 hPd hmd edv hB9 hput hd hdg hdcl hdz hdp h8 hrp hq k10 ho10 hb10 hone hbx hrs hsz hcsq hfin HX H9 hk
            subst hpe
            go_wp2_with (first | (refine wpList_load_row rfl _ _ rfl w.heap.size rfl _ _ (0, 0) _ HBX.out Tryz.underlying36 rfl HSZ.out ?_) | (refine wpList_store_row rfl _ _ _ rfl (w.heap.size + 1) _ rfl rfl _ _ HRS.out HSZ.out (by have := HSZ.out; rw [info6] at this; injection this) HON.out ?_; rw [hw10]))
            exact bodyPost_ret (v := .tuple #[.agg csq, .int .i64 0]) (by simp [results, Tryz.results35, asAddr, Act.put, run_loadVar_row w10 (w.heap.size + 1) 36 36 _ (0, 0) _ HFIN.out.1 Tryz.underlying36 rfl HSZ.out]) rfl HFIN.out.2
          · have HM : Hid (∀ (a : Nat) (d : Int × (Nat × Bool)), p.dt[a]? = some d → a < k + 1 → d.1 ≠ n) := by
              intro a d' hd' ha
              rcases Nat.lt_or_eq_of_le (Nat.le_of_lt_succ ha) with h8 | h8
              · exact hno a d' hd' h8
              · subst h8
                rw [hd] at hd'
                injection hd' with hd'
                rw [← hd', hdp]; exact hpe
            clear hno h9 hPd hmd edv hB9 hput hd hdg hdcl hdz hdp hk
            go_wp2
            go_roundw
            case rel => exact ⟨k + 1, by omega, by go_num, by trivial, HM.out⟩
            case measure => simp [RowKit.intOf]; omega
        · subst heq
          have hrp : rput p.dt n lsn = p.dt.take (atTo p.dt n p.dt.length) ++ (n, (lsn, true)) :: p.dt.drop (atTo p.dt n p.dt.length) := by
            unfold rput
            rw [List.findIdx?_eq_none_iff.2 (fun d hd => by
              obtain ⟨a, ha, rfl⟩ := List.getElem_of_mem hd
              simpa using hno a _ (List.getElem?_eq_getElem ha) (by omega))]
          have HRP := Lib.hid hrp
          clear hrp hno h9 hPd hmd edv hB9 hput hk hk0
          go_wp2
          go_loopw [12, 13] (fun at0 i0 wq => ∃ j : Nat, j ≤ k ∧ i0 = .int .i64 (j : Int) ∧ at0 = .int .i64 (atTo p.dt n j : Int) ∧ wq = wr) (fun _ i0 _ => k - (RowKit.intOf i0).toNat)
          case atStart => exact ⟨0, Nat.zero_le _, rfl, rfl, by trivial⟩
          case round =>
            obtain ⟨j, hj, rfl, rfl, hwq⟩ := hrel
            subst hwq
            obtain ⟨h9, hPd, hmd, edv, hB9, hput⟩ := H9.out
            have hj0 : (0 : Int) ≤ (j : Int) := by omega
            rcases Nat.lt_or_eq_of_le hj with hlt | heq
            · obtain ⟨d, hd⟩ : ∃ d, p.dt[j]? = some d := ⟨_, List.getElem?_eq_getElem (by omega)⟩
              obtain ⟨dg, dc', edv', hdg, hdcl, hdz⟩ := h9.own.dcell (show P.dt[j]? = some d by rw [hPd]; exact hd)
              rw [hPd, hmd, edv] at edv'
              injection edv' with e1 e2 e3
              subst e1 e3
              have hji : (j : Int) < (k : Int) := by omega
              have c0 := hdcl 0 _ (by decide) rfl
              rw [Nat.add_zero] at c0
              obtain ⟨dp, hdp⟩ : ∃ dp, d.1 = dp := ⟨_, rfl⟩
              rw [hdp] at c0
              by_cases hpe : dp < n
              · have HM : Hid (((j + 1 : Nat) : Int) = (atTo p.dt n (j + 1) : Int)) := by
                  show _ = _
                  rw [atTo, hd]
                  simp only
                  rw [if_pos (by rw [hdp]; exact hpe)]
                clear h9 hPd hmd edv hB9 hput hd hdg hdcl hdz hdp hj
                go_wp2
                go_roundw
                case rel => exact ⟨j + 1, by omega, by go_num, by rw [← HM.out]; go_num, by trivial⟩
                case measure => simp [RowKit.intOf]; omega
              · have HM : Hid (atTo p.dt n (j + 1) = atTo p.dt n j) := by
                  show _ = _
                  rw [atTo, hd]
                  simp only
                  rw [if_neg (by rw [hdp]; exact hpe)]
                clear h9 hPd hmd edv hB9 hput hd hdg hdcl hdz hdp hj
                go_wp2
                go_roundw
                case rel => exact ⟨j + 1, by omega, by go_num, by rw [HM.out], by trivial⟩
                case measure => simp [RowKit.intOf]; omega
            · subst heq
              rw [hmd] at HRP
              obtain ⟨at1, hat⟩ : ∃ at1, atTo p.dt n j = at1 := ⟨_, rfl⟩
              have hatl : at1 ≤ j := by rw [← hat]; exact atTo_le _ _ _
              rw [hat] at HRP ⊢
              have hds := h9.rat.ds
              rw [hPd, edv, hmd] at hds
              obtain ⟨b6, c6, w10, R7, c7, w11, b8, c8, w12, hr6, hr7, hr8, hb6, hb7, hb8, ho8⟩ := mk_insert hds hmd at1 hatl (n, (lsn, true)) (by omega)
              have hlr : (rput p.dt n lsn).length = j + 1 := by rw [HRP.out]; simp; omega
              have ho8' : w12.ownsRow wr.heap.size 48 3 (.slice b8 (j + 1) c8) (rput p.dt n lsn).length (mkc (rput p.dt n lsn)) := by rw [hlr, HRP.out]; exact ho8
              have hnd := h9.newD hB9 (rput p.dt n lsn) (.slice b8 (j + 1) c8) hb8 ho8'
              obtain ⟨w13, hw13⟩ : ∃ w13, w12.setCell ⟨w.heap.size, 2, none⟩ (.slice b8 (j + 1) c8) = w13 := ⟨_, rfl⟩
              rw [hw13] at hnd
              obtain ⟨q, hq⟩ : ∃ q : RP, q = { P with dt := rput p.dt n lsn } := ⟨_, rfl⟩
              obtain ⟨xq, hxq⟩ : ∃ xq : RPV, xq = { x9 with dv := .slice b8 (j + 1) c8 } := ⟨_, rfl⟩
              rw [← hq] at hput
              rw [← hq, ← hxq] at hnd
              obtain ⟨w14, hw14, k14, ho14, hb14⟩ := hnd.ret
              have hone := hnd.own.one
              have hbx := hnd.box
              have hrs := hnd.res
              have hsz := rp_size q xq
              obtain ⟨csq, hcsq⟩ : ∃ csq, rpcells q xq = csq := ⟨_, rfl⟩
              rw [hcsq] at hw14 k14 hbx hone hsz
              have hfin : post (.returned (.tuple #[.agg csq, .int .i64 0])) w14 := by
                obtain ⟨-, -, -, -, -, -, -, hpost, -⟩ := HX.out
                rw [hpost, hput]
                exact ⟨xq, by rw [hcsq], ho14.rat (fun _ h => h), hb14⟩
              have q1 : ∀ W : World, (Instr.sliceAt 32 (.slice da j dc) none (some (.int .i64 at1)) none).run Tryz.prog W = .ok (sliced da 0 at1 dc 3) W := fun W => slcH rinfo_mk Tryz.underlying32 elemMk da j dc at1 W at1 rfl (by obtain ⟨a9, c9, e9, h91, h92⟩ := hds.form; injection e9 with e91 e92 e93; omega)
              have q2 : ∀ W : World, (Instr.sliceAt 32 (.slice da j dc) (some (.int .i64 at1)) none none).run Tryz.prog W = .ok (sliced da at1 j dc 3) W := fun W => slcL rinfo_mk Tryz.underlying32 elemMk da j dc at1 W at1 rfl (by omega) (by obtain ⟨a9, c9, e9, h91, h92⟩ := hds.form; injection e9 with e91 e92 e93; omega)
              obtain ⟨s6, hs6⟩ : ∃ s6, sliced da 0 at1 dc 3 = s6 := ⟨_, rfl⟩
              obtain ⟨s8, hs8⟩ : ∃ s8, sliced da at1 j dc 3 = s8 := ⟨_, rfl⟩
              rw [hs6] at hr6 q1
              rw [hs8] at hr8 q2
              obtain ⟨p6a, p6n, p6c, hp6⟩ : ∃ p6a p6n p6c, s6 = .slice p6a p6n p6c := ⟨_, _, _, hs6.symm⟩
              obtain ⟨p8a, p8n, p8c, hp8⟩ : ∃ p8a p8n p8c, s8 = .slice p8a p8n p8c := ⟨_, _, _, hs8.symm⟩
              clear hs6 hs8
              subst hp6 hp8
              have hk10 := h9.box.below hb6 h9.box.lt
              have hk11 := h9.box.below hb7 h9.box.lt
              have hk12 := h9.box.below hb8 h9.box.lt
              have b2x : w11.cell? ⟨w.heap.size, 2, none⟩ = some (.slice da j dc) := hk11.cell 2 (by simp [rpcells, edv])
              have b2y : w12.cell? ⟨w.heap.size, 2, none⟩ = some (.slice da j dc) := hk12.cell 2 (by simp [rpcells, edv])
              have z2y := hk12.frozen 2
              have hat0 : (0 : Int) ≤ (at1 : Int) := by omega
              have hatj : (at1 : Int) ≤ (j : Int) := by omega
              have hm3 : (m3 (n, (lsn, true))).toArray = #[.int .i64 n, .int .u64 (lsn : Int), .bool true] := rfl
              rw [hm3] at hr7
              have HR6 := Lib.hid hr6
              have HR7 := Lib.hid hr7
              have HR8 := Lib.hid hr8
              have HBX := Lib.hid hbx
              have HSZ := Lib.hid hsz
              have HON := Lib.hid hone
              have HRS := Lib.hid hrs
              have HFIN := Lib.hid (And.intro k14 hfin)
              clear h9 hPd hmd edv hB9 hput hj hat hatl hds hr6 hr7 hr8 hb6 hb7 hb8 ho8 hlr ho8' hnd hq hxq k14 ho14 hb14 hone hbx hrs hsz hcsq hfin hk10 hk11 hk12 hm3 HRP HX H9
              go_wp2_with (first | (at_builtin; refine wpList_append_eq rfl rfl HR6.out rfl rfl ?_; clear HR6) | (at_builtin; refine wpList_append_eq rfl rfl HR7.out rfl rfl ?_; clear HR7) | (at_builtin; refine wpList_append_eq rfl rfl HR8.out rfl rfl ?_; clear HR8) | (refine wpList_load_row rfl _ _ rfl w.heap.size rfl _ _ (0, 0) _ HBX.out Tryz.underlying36 rfl HSZ.out ?_) | (refine wpList_store_row rfl _ _ _ rfl (w.heap.size + 1) _ rfl rfl _ _ HRS.out HSZ.out (by have := HSZ.out; rw [info6] at this; injection this) HON.out ?_; rw [hw14]))
              exact bodyPost_ret (v := .tuple #[.agg csq, .int .i64 0]) (by simp [results, Tryz.results35, asAddr, Act.put, run_loadVar_row w14 (w.heap.size + 1) 36 36 _ (0, 0) _ HFIN.out.1 Tryz.underlying36 rfl HSZ.out]) rfl HFIN.out.2
end
end Mun
end

section
/- New of chapter 8's own pool. -/
set_option maxRecDepth 100000
set_option linter.unusedVariables false
set_option linter.unusedSimpArgs false
namespace Mun
open Go Go.RowKit
open Go.Proofs

def rf0 : RF := ⟨-1, 0, false, [], 0, false⟩
def rfv0 : RFV := (rf0, .slice none 0 0)
def RP.new (pages frames fin forced : Nat) : RP := ⟨List.replicate frames rf0, 0, [], List.replicate pages page0, fin, forced⟩
def ncells (fv kv : Value) (fin forced : Nat) : Array Value := #[fv, .int .i64 0, .slice none 0 0, kv, .int .u64 (fin : Int), .int .u64 (forced : Int)]

structure RN (w wr : World) (fv kv : Value) (nf : Nat) (vals : List Value) (fin forced : Nat) : Prop where
  bl : Below w.heap.size w wr
  res : PBox wr w.heap.size Z6
  box : PBox wr (w.heap.size + 1) (ncells fv kv fin forced)
  krow : wr.ownsRow (w.heap.size + 2) 41 1 kv vals.length vals
  kb : ∀ v ∈ vals, ∃ g, v = .slice (some ⟨g, 0, none⟩) 512 512 ∧ w.heap.size + 2 ≤ g ∧ wr.heap[g]? = some (bobj page0)
  frow : wr.ownsRow (w.heap.size + 2) 79 6 fv nf (rfc (List.replicate nf rfv0))

theorem own_obj {w : World} {B : Nat} {e : TypeId} {size n : Nat} {v : Value} {xs : List Value} (h : w.ownsRow B e size v n xs) {g : Nat} {cs : Array Value} {ty : TypeId} {fr : Nat × Nat} (hg : w.heap[g]? = some (.cells cs ty fr)) (hne : e ≠ ty) : v.ownBlock ≠ some g := by
  intro e9
  rcases h.2 with ⟨rfl, -⟩ | ⟨g', cap', cur', rfl, -, hg', -⟩
  · cases e9
  · simp only [Value.ownBlock, Option.some.injEq] at e9
    subst e9
    rw [hg] at hg'
    injection hg' with hg'
    injection hg' with _ hg' _
    exact hne hg'.symm

section
variable {w wr w' : World} {fv kv : Value} {nf : Nat} {vals : List Value} {fin forced : Nat}
theorem RN.below (h : RN w wr fv kv nf vals fin forced) (hb : Below wr.heap.size wr w') : RN w w' fv kv nf vals fin forced :=
  ⟨h.bl.trans (hb.mono h.bl.size), h.res.below hb h.res.lt, h.box.below hb h.box.lt, own_below h.krow hb, fun v hv => by obtain ⟨g, e, h1, h2⟩ := h.kb v hv; exact ⟨g, e, h1, (hb.block g (Array.getElem?_eq_some_iff.1 h2).1).trans h2⟩, own_below h.frow hb⟩
/-- a page more: the world behind make, the slice's cell and the append -/
theorem RN.pageStep (h : RN w wr fv kv nf vals fin forced) (hl : vals.length ≤ 1024) {wA : World} (hA : wr.alloc (bobj page0) = wA) :
    ∃ R cp wC, (Builtin.append_ #[33, 33] 33 #[kv, .slice (some ⟨wA.heap.size, 0, none⟩) 1 1]).run Tryz.prog (wA.alloc (.cells #[.slice (some ⟨wr.heap.size, 0, none⟩) 512 512] 41)) = .ok (.slice (some ⟨R, 0, none⟩) (vals.length + 1) cp) wC ∧
      (wC.cell? ⟨w.heap.size + 1, 3, none⟩ = some kv ∧ wC.frozen? ⟨w.heap.size + 1, 3, none⟩ = false) ∧ (wA.alloc (.cells #[.slice (some ⟨wr.heap.size, 0, none⟩) 512 512] 41)).cell? ⟨w.heap.size + 1, 3, none⟩ = some kv ∧
      RN w (wC.setCell ⟨w.heap.size + 1, 3, none⟩ (.slice (some ⟨R, 0, none⟩) (vals.length + 1) cp)) fv (.slice (some ⟨R, 0, none⟩) (vals.length + 1) cp) nf (vals ++ [.slice (some ⟨wr.heap.size, 0, none⟩) 512 512]) fin forced := by
  have hbA : Below wr.heap.size wr wA := by rw [← hA]; exact (Below.refl _ _).alloc (Nat.le_refl _) _
  have hgA : wA.heap[wr.heap.size]? = some (bobj page0) := by rw [← hA]; exact heap_alloc_new wr _
  have hsA : wA.heap.size = wr.heap.size + 1 := by rw [← hA, World.size_alloc]
  have h1 := h.below hbA
  have hwl := h.bl.size
  obtain ⟨R, cp, wC, hr, ho, hg⟩ := push_row (ty := 33) Tryz.underlying33 rinfo_b rfl (by decide) (by decide) (by decide) #[.slice (some ⟨wr.heap.size, 0, none⟩) 512 512] rfl (by intro u hu; simp at hu; rw [hu]; rfl) h1.krow (by have := h.res.lt; have := h.box.lt; omega) (by omega)
  have hbB : Below wA.heap.size wA (wA.alloc (.cells #[.slice (some ⟨wr.heap.size, 0, none⟩) 512 512] 41)) := (Below.refl _ _).alloc (Nat.le_refl _) _
  have h2 := h1.below hbB
  have hgB : (wA.alloc (.cells #[.slice (some ⟨wr.heap.size, 0, none⟩) 512 512] 41)).heap[wr.heap.size]? = some (bobj page0) := (hbB.block _ (by omega)).trans hgA
  obtain ⟨wB, hwB⟩ : ∃ wB, wA.alloc (.cells #[.slice (some ⟨wr.heap.size, 0, none⟩) 512 512] 41) = wB := ⟨_, rfl⟩
  rw [hwB] at hr h2 hgB hg ⊢
  have hbx : PBox wC (w.heap.size + 1) (ncells fv kv fin forced) := (hg.block _ h2.box.lt (fun e => own_obj h2.krow h2.box (by decide) e.symm)).trans h2.box
  refine ⟨R, cp, wC, hr, ⟨hbx.cell 3 rfl, hbx.frozen 3⟩, h2.box.cell 3 rfl, ?_⟩
  have hrs : PBox wC w.heap.size Z6 := (hg.block _ h2.res.lt (fun e => own_obj h2.krow h2.res (by decide) e.symm)).trans h2.res
  have hgC : ∀ g, wB.heap[g]? = some (bobj page0) → wC.heap[g]? = some (bobj page0) := fun g h9 => (hg.block _ (Array.getElem?_eq_some_iff.1 h9).1 (fun e => own_obj h2.krow h9 (by decide) e.symm)).trans h9
  have hfr := h2.frow.kept hg (own_apart h2.frow h2.krow (by decide))
  have hbl : Below w.heap.size w wC := by
    refine ⟨hg.os.trans h2.bl.os, hg.tape.trans h2.bl.tape, hg.output.trans h2.bl.output, Nat.le_trans h2.bl.size hg.size, fun k hk => ?_⟩
    rw [hg.block k (Nat.lt_of_lt_of_le hk h2.bl.size) (fun e => by have := (h2.krow.lt k e.symm).1; omega)]
    exact h2.bl.block k hk
  have hne : ∀ k, k ≠ w.heap.size + 1 → (wC.setCell ⟨w.heap.size + 1, 3, none⟩ (.slice (some ⟨R, 0, none⟩) (vals.length + 1) cp)).heap[k]? = wC.heap[k]? := fun k hk => setCell_heap _ _ _ _ hk
  have hkpr : ∀ {e : TypeId} {size n : Nat} {v : Value} {xs : List Value}, wC.ownsRow (w.heap.size + 2) e size v n xs → (wC.setCell ⟨w.heap.size + 1, 3, none⟩ (.slice (some ⟨R, 0, none⟩) (vals.length + 1) cp)).ownsRow (w.heap.size + 2) e size v n xs := by
    intro e size n v xs h9
    refine ⟨h9.1, ?_⟩
    rcases h9.2 with h8 | ⟨g, cap, cur, rfl, hb, hg9, h1, h2, h3, h4⟩
    · exact .inl h8
    · exact .inr ⟨g, cap, cur, rfl, hb, (hne g (by omega)).trans hg9, h1, h2, h3, h4⟩
  refine ⟨hbl.setCell (by simp only; omega) _, (hne _ (by omega)).trans hrs, ?_, ?_, fun v hv => ?_, hkpr hfr⟩
  · have h9 := hbx.set 3 (.slice (some ⟨R, 0, none⟩) (vals.length + 1) cp)
    exact h9
  · rw [List.length_append]
    exact hkpr ho
  · rcases List.mem_append.1 hv with hv | hv
    · obtain ⟨g, e, h3, h4⟩ := h2.kb v hv
      exact ⟨g, e, h3, (hne g (by omega)).trans (hgC g h4)⟩
    · rw [List.mem_singleton] at hv
      have := h.box.lt
      exact ⟨wr.heap.size, hv, by omega, (hne _ (by omega)).trans (hgC _ hgB)⟩
/-- a frame more -/
theorem RN.frameStep (h : RN w wr fv kv nf vals fin forced) (hl : nf ≤ 1024) :
    ∃ R cp wC, (Builtin.append_ #[31, 31] 31 #[fv, .slice (some ⟨wr.heap.size, 0, none⟩) 1 1]).run Tryz.prog (wr.alloc (.cells #[.int .i64 (-1), .int .i64 0, .bool false, .slice none 0 0, .int .u64 0, .bool false] 79)) = .ok (.slice (some ⟨R, 0, none⟩) (nf + 1) cp) wC ∧
      (wC.cell? ⟨w.heap.size + 1, 0, none⟩ = some fv ∧ wC.frozen? ⟨w.heap.size + 1, 0, none⟩ = false) ∧ RN w (wC.setCell ⟨w.heap.size + 1, 0, none⟩ (.slice (some ⟨R, 0, none⟩) (nf + 1) cp)) (.slice (some ⟨R, 0, none⟩) (nf + 1) cp) kv (nf + 1) vals fin forced := by
  have hbB : Below wr.heap.size wr (wr.alloc (.cells #[.int .i64 (-1), .int .i64 0, .bool false, .slice none 0 0, .int .u64 0, .bool false] 79)) := (Below.refl _ _).alloc (Nat.le_refl _) _
  have h2 := h.below hbB
  obtain ⟨R, cp, wC, hr, ho, hg⟩ := push_row (ty := 31) Tryz.underlying31 rinfo_fr rfl (by decide) (by decide) (by decide) #[.int .i64 (-1), .int .i64 0, .bool false, .slice none 0 0, .int .u64 0, .bool false] rfl (by intro u hu; simp at hu; rcases hu with rfl | rfl | rfl | rfl | rfl | rfl <;> rfl) h.frow (by have := h.res.lt; have := h.box.lt; omega) (by omega)
  obtain ⟨wB, hwB⟩ : ∃ wB, wr.alloc (.cells #[.int .i64 (-1), .int .i64 0, .bool false, .slice none 0 0, .int .u64 0, .bool false] 79) = wB := ⟨_, rfl⟩
  rw [hwB] at hr h2 hg ⊢
  have hbx : PBox wC (w.heap.size + 1) (ncells fv kv fin forced) := (hg.block _ h2.box.lt (fun e => own_obj h2.frow h2.box (by decide) e.symm)).trans h2.box
  refine ⟨R, cp, wC, hr, ⟨hbx.cell 0 rfl, hbx.frozen 0⟩, ?_⟩
  have hrs : PBox wC w.heap.size Z6 := (hg.block _ h2.res.lt (fun e => own_obj h2.frow h2.res (by decide) e.symm)).trans h2.res
  have hgC : ∀ g, wB.heap[g]? = some (bobj page0) → wC.heap[g]? = some (bobj page0) := fun g h9 => (hg.block _ (Array.getElem?_eq_some_iff.1 h9).1 (fun e => own_obj h2.frow h9 (by decide) e.symm)).trans h9
  have hkr := h2.krow.kept hg (own_apart h2.krow h2.frow (by decide))
  have hbl : Below w.heap.size w wC := by
    refine ⟨hg.os.trans h2.bl.os, hg.tape.trans h2.bl.tape, hg.output.trans h2.bl.output, Nat.le_trans h2.bl.size hg.size, fun k hk => ?_⟩
    rw [hg.block k (Nat.lt_of_lt_of_le hk h2.bl.size) (fun e => by have := (h2.frow.lt k e.symm).1; omega)]
    exact h2.bl.block k hk
  have hne : ∀ k, k ≠ w.heap.size + 1 → (wC.setCell ⟨w.heap.size + 1, 0, none⟩ (.slice (some ⟨R, 0, none⟩) (nf + 1) cp)).heap[k]? = wC.heap[k]? := fun k hk => setCell_heap _ _ _ _ hk
  have hkpr : ∀ {e : TypeId} {size n : Nat} {v : Value} {xs : List Value}, wC.ownsRow (w.heap.size + 2) e size v n xs → (wC.setCell ⟨w.heap.size + 1, 0, none⟩ (.slice (some ⟨R, 0, none⟩) (nf + 1) cp)).ownsRow (w.heap.size + 2) e size v n xs := by
    intro e size n v xs h9
    refine ⟨h9.1, ?_⟩
    rcases h9.2 with h8 | ⟨g, cap, cur, rfl, hb, hg9, h1, h2, h3, h4⟩
    · exact .inl h8
    · exact .inr ⟨g, cap, cur, rfl, hb, (hne g (by omega)).trans hg9, h1, h2, h3, h4⟩
  refine ⟨hbl.setCell (by simp only; omega) _, (hne _ (by omega)).trans hrs, ?_, hkpr hkr, fun v hv => ?_, ?_⟩
  · have h9 := hbx.set 0 (.slice (some ⟨R, 0, none⟩) (nf + 1) cp)
    exact h9
  · obtain ⟨g, e, h3, h4⟩ := h2.kb v hv
    exact ⟨g, e, h3, (hne g (by omega)).trans (hgC g h4)⟩
  · have e9 : rfc (List.replicate (nf + 1) rfv0) = rfc (List.replicate nf rfv0) ++ (#[Value.int .i64 (-1), .int .i64 0, .bool false, .slice none 0 0, .int .u64 0, .bool false] : Array Value).toList := by
      rw [List.replicate_succ', rfc, rfc, List.flatMap_append]
      rfl
    rw [e9]
    exact hkpr ho
/-- what it is at last -/
theorem RN.rat {F : Foot} (h : RN w wr fv kv nf vals fin forced) (hF : ∀ k, F k → k < w.heap.size + 2) : ∃ x : RPV, rpcells (RP.new vals.length nf fin forced) x = ncells fv kv fin forced ∧ RAt F wr (RP.new vals.length nf fin forced) x := by
  refine ⟨⟨fv, .slice none 0 0, kv, List.replicate nf rfv0, vals.map fun v => (page0, v)⟩, rfl, ?_, ?_, fun f hf => ?_, RdV.nil _ _ _, ?_, ?_, fun q hq => ?_⟩
  · rw [List.length_replicate]
    exact RdV.of_own h.frow (fun k hk hf => by have := hF k hf; omega)
  · simp [RP.new, rfv0]
  · rw [(List.mem_replicate.1 hf).2]
    exact RdB.nil _ _
  · rw [List.length_map, List.map_map, show ((fun x : Bytes × Value => x.2) ∘ fun v => (page0, v)) = id from rfl, List.map_id]
    exact RdV.of_own h.krow (fun k hk hf => by have := hF k hf; omega)
  · simp [RP.new, List.map_map, Function.comp_def, List.map_const']
  · obtain ⟨v, hv, rfl⟩ := List.mem_map.1 hq
    obtain ⟨g, rfl, hg, hgb⟩ := h.kb v hv
    refine ⟨by rw [bv_length]; omega, _, _, rfl, by simp [page0], by unfold maxLen; omega, by simp, fun _ => ⟨g, 0, _, _, (0, 0), rfl, fun hf => by have := hF g hf; omega, hgb, ?_⟩⟩
    rw [List.drop_zero, List.take_of_length_le]
    rw [bv_length]; simp [page0]
end

set_option maxHeartbeats 4000000 in
theorem rp_new {F : Foot} (w : World) (hF : ∀ k, F k → k < w.heap.size) (pages frames fin forced : Nat) (hp : pages ≤ 1024) (hfr : frames ≤ 1024) :
    Calls Tryz.prog 8 #[.int .i64 pages, .int .i64 frames, .int .u64 fin, .int .u64 forced] w (REnd F w (RP.new pages frames fin forced) id) := by
  obtain ⟨w1, hw1, hb1, k0, k1, s1⟩ := rp_boxes w Z6 rfl
  obtain ⟨w2, hw2⟩ : ∃ w2, w1.setRow (w.heap.size + 1) #[.slice none 0 0, .int .i64 0, .slice none 0 0, .slice none 0 0, .int .u64 (fin : Int), .int .u64 (forced : Int)] = w2 := ⟨_, rfl⟩
  have h2 : RN w w2 (.slice none 0 0) (.slice none 0 0) 0 [] fin forced := by
    refine ⟨by rw [← hw2]; exact below_setRow hb1 (by omega) _, by rw [← hw2]; exact k0.rowNe _ (by omega), by rw [← hw2]; exact k1.row _, World.ownsRow_nil _ _ _ _, fun v hv => (by cases hv), World.ownsRow_nil _ _ _ _⟩
  obtain ⟨post, hpost⟩ : ∃ post : Ending → World → Prop, post = REnd F w (RP.new pages frames fin forced) id := ⟨_, rfl⟩
  rw [← hpost]
  have HK1 := Lib.hid k1
  have H2 := Lib.hid (And.intro h2 (And.intro hF hpost))
  have hp0 : (0 : Int) ≤ (pages : Int) := by omega
  have hp1 : (pages : Int) ≤ 1024 := by omega
  have hf0 : (0 : Int) ≤ (frames : Int) := by omega
  have hf1 : (frames : Int) ≤ 1024 := by omega
  have hls : (Z6 : Array Value).size = 6 := rfl
  clear hb1 k0 k1 h2 hF hpost
  have s1' : (w.alloc (.cells #[.slice none 0 0, .int .i64 0, .slice none 0 0, .slice none 0 0, .int .u64 0, .int .u64 0] 36)).heap.size = w.heap.size + 1 := World.size_alloc _ _
  unfold Z6 at hw1
  go_enter Tryz.func8, Tryz.ntmps8
  go_wp2_with (first | rw [hw1] | rw [s1'] | (refine wpList_store_row rfl _ _ _ rfl (w.heap.size + 1) _ rfl rfl _ _ HK1.out info6 rfl (by simp [Value.oneCell']) ?_; rw [hw2]))
  go_loopw [10] (fun i0 wr => ∃ (k : Nat) (kv : Value) (vals : List Value), k ≤ pages ∧ i0 = .int .i64 (k : Int) ∧ vals.length = k ∧ RN w wr (.slice none 0 0) kv 0 vals fin forced) (fun i0 _ => pages - (RowKit.intOf i0).toNat)
  case atStart => exact ⟨0, _, [], Nat.zero_le _, rfl, rfl, H2.out.1⟩
  case round =>
    obtain ⟨k, kv, vals, hk, rfl, hvl, hr⟩ := hrel
    obtain ⟨wq, rfl⟩ : ∃ wq : World, wq = wr := ⟨_, rfl⟩
    have hk0 : (0 : Int) ≤ (k : Int) := by omega
    rcases Nat.lt_or_eq_of_le hk with hlt | heq
    · have hrd : RN w wq.drew (.slice none 0 0) kv 0 vals fin forced := hr.below (below_drewN (Below.refl _ _) 1)
      obtain ⟨wA, hA⟩ : ∃ wA, wq.drew.alloc (bobj page0) = wA := ⟨_, rfl⟩
      obtain ⟨R, cp, wC, hr9, hc9, hcB, hn9⟩ := hrd.pageStep (by omega) hA
      have hbA : Below wq.drew.heap.size wq.drew wA := by rw [← hA]; exact (Below.refl _ _).alloc (Nat.le_refl _) _
      have hrA := hrd.below hbA
      obtain ⟨ka, kc, rfl⟩ := own_slice hr.krow
      rw [hvl] at hr9 hn9 hc9 hcB hrA
      have hki : (k : Int) < (pages : Int) := by omega
      have hmb : (Instr.makeSlice 41 (.int .i64 512) (.int .i64 512)).run Tryz.prog wq.drew = .ok (.slice (some ⟨wq.drew.heap.size, 0, none⟩) 512 512) wA := by rw [← hA]; exact make_bytes 512 512 (Nat.le_refl _) (by decide) wq.drew
      have hS0 : wq.drew.cell? ⟨w.heap.size + 1, 3, none⟩ = some (.slice ka k kc) := by
        have := hrd.box.cell 3 (v := .slice ka vals.length kc) rfl
        rw [hvl] at this
        exact this
      have hSA : wA.cell? ⟨w.heap.size + 1, 3, none⟩ = some (.slice ka k kc) := by
        have := hrA.box.cell 3 (v := .slice ka k kc) rfl
        exact this
      have HR9 := Lib.hid hr9
      have HM := Lib.hid (And.intro hn9 (show (vals ++ [Value.slice (some ⟨wq.drew.heap.size, 0, none⟩) 512 512]).length = k + 1 by rw [List.length_append, hvl]; rfl))
      have hcC := hc9.1
      have hzC := hc9.2
      obtain ⟨g0, hg0⟩ : ∃ g0, wq.drew.heap.size = g0 := ⟨_, rfl⟩
      rw [hg0] at HR9 HM hmb hcB
      have hcC1 : wC.cell? ⟨w.heap.size + 1, 3, none⟩ = some (.slice ka k kc) := by rw [hc9.1]
      have hS2 : (wA.alloc (.cells #[.slice (some ⟨g0, 0, none⟩) 512 512] 41)).cell? ⟨w.heap.size + 1, 3, none⟩ = some (.slice ka k kc) := by rw [hcB]
      have hS3 : wC.cell? ⟨w.heap.size + 1, 3, none⟩ = some (.slice ka k kc) := hcC1
      clear hrd hA hn9 hbA hrA hr hvl hk hr9 hc9 hcB hcC hg0
      go_upto_region 5 with (fail)
      refine wp_region_U (fun W => W.cell? ⟨w.heap.size + 1, 3, none⟩ = some (.slice ka k kc)) [6] (by kernel_rfl) ?_
      refine wpAnyU_take (i := 0) [1, 4, 5, 6] rfl (by as_aux_lemma => kernel_rfl) (by as_aux_lemma => kernel_rfl) (by as_aux_lemma => kernel_rfl) (by as_aux_lemma => kernel_rfl) (by as_aux_lemma => kernel_rfl) (by as_aux_lemma => kernel_rfl) (fun _ _ _ h => h) (Or.inl ⟨by rfl, (by intro W hSW; (try dsimp only at hSW); (try go_split_ands); go_simp <;> with_reducible rfl)⟩) hS0 ?_
      try simp only [Act.put, List.getElem_toArray, List.getElem_cons_succ, List.getElem_cons_zero, List.setIfInBounds_toArray, List.set_cons_zero, List.set_cons_succ]
      refine wpAnyU_take (i := 1) [4, 5, 6] rfl (by as_aux_lemma => kernel_rfl) (by as_aux_lemma => kernel_rfl) (by as_aux_lemma => kernel_rfl) (by as_aux_lemma => kernel_rfl) (by as_aux_lemma => kernel_rfl) (by as_aux_lemma => kernel_rfl) (fun _ _ _ h => h) (Or.inl ⟨by rfl, (by intro W hSW; (try dsimp only at hSW); (try go_split_ands); go_simp <;> with_reducible rfl)⟩) hS0 ?_
      try simp only [Act.put, List.getElem_toArray, List.getElem_cons_succ, List.getElem_cons_zero, List.setIfInBounds_toArray, List.set_cons_zero, List.set_cons_succ]
      refine wpAnyU_one (i := 2) (by kernel_rfl) rfl (fun K hK => ?_)
      go_simp
      refine hK.out _ _ (fun _ => hSA) (fun _ => ?_)
      clear hK K
      try simp only [Act.put, List.getElem_toArray, List.getElem_cons_succ, List.getElem_cons_zero, List.setIfInBounds_toArray, List.set_cons_zero, List.set_cons_succ]
      refine wpAnyU_one (i := 3) (by kernel_rfl) rfl (fun K hK => ?_)
      go_simp
      refine hK.out _ _ (fun _ => hS2) (fun _ => ?_)
      clear hK K
      try simp only [Act.put, List.getElem_toArray, List.getElem_cons_succ, List.getElem_cons_zero, List.setIfInBounds_toArray, List.set_cons_zero, List.set_cons_succ]
      refine wpAnyU_one (i := 4) (by kernel_rfl) rfl (fun K hK => ?_)
      refine step_append_is rfl rfl HR9.out rfl rfl ?_
      refine hK.out _ _ (fun _ => hS3) (fun _ => ?_)
      clear hK K
      try simp only [Act.put, List.getElem_toArray, List.getElem_cons_succ, List.getElem_cons_zero, List.setIfInBounds_toArray, List.set_cons_zero, List.set_cons_succ]
      refine wpAnyU_take (i := 5) [6] rfl (by as_aux_lemma => kernel_rfl) (by as_aux_lemma => kernel_rfl) (by as_aux_lemma => kernel_rfl) (by as_aux_lemma => kernel_rfl) (by as_aux_lemma => kernel_rfl) (by as_aux_lemma => kernel_rfl) (fun _ _ _ h => h) (Or.inl ⟨by rfl, (by intro W hSW; (try dsimp only at hSW); (try go_split_ands); go_simp <;> with_reducible rfl)⟩) hS3 ?_
      try simp only [Act.put, List.getElem_toArray, List.getElem_cons_succ, List.getElem_cons_zero, List.setIfInBounds_toArray, List.set_cons_zero, List.set_cons_succ]
      refine wpAnyU_one (i := 6) (by kernel_rfl) rfl (fun K hK => ?_)
      go_simp
      refine hK.out _ _ (fun h => absurd h (by decide)) (fun _ => ?_)
      clear hK K
      try simp only [Act.put, List.getElem_toArray, List.getElem_cons_succ, List.getElem_cons_zero, List.setIfInBounds_toArray, List.set_cons_zero, List.set_cons_succ]
      refine wpAnyU_done (by kernel_rfl) ?_ _
      go_wp2
      go_roundw
      case rel => exact ⟨k + 1, _, _, by omega, by go_num, HM.out.2, HM.out.1⟩
      case measure => simp [RowKit.intOf]; omega
    · subst heq
      obtain ⟨ka, kc, rfl⟩ := own_slice hr.krow
      have HKV := Lib.hid (And.intro hr hvl)
      clear hr hk
      go_wp2
      clear hvl
      go_loopw [11] (fun i0 wr => ∃ (j : Nat) (fv : Value), j ≤ frames ∧ i0 = .int .i64 (j : Int) ∧ RN w wr fv (.slice ka vals.length kc) j vals fin forced) (fun i0 _ => frames - (RowKit.intOf i0).toNat)
      case atStart => exact ⟨0, _, Nat.zero_le _, rfl, HKV.out.1⟩
      case round =>
        obtain ⟨j, fv, hj, rfl, hr⟩ := hrel
        obtain ⟨wt, rfl⟩ : ∃ wt : World, wt = wr := ⟨_, rfl⟩
        have hj0 : (0 : Int) ≤ (j : Int) := by omega
        obtain ⟨fa, fc, rfl⟩ := own_slice hr.frow
        rcases Nat.lt_or_eq_of_le hj with hlt | heq
        · have q0 : wt.cell? ⟨w.heap.size + 1, 0, none⟩ = some (.slice fa j fc) := hr.box.cell 0 rfl
          obtain ⟨R, cp, wC, hr9, hc9, hn9⟩ := hr.frameStep (by omega)
          obtain ⟨hcC, hzC⟩ := hc9
          have hji : (j : Int) < (frames : Int) := by omega
          have HR9 := Lib.hid hr9
          have HM := Lib.hid hn9
          clear hr hr9 hn9 hj
          go_wp2_with (first | (at_builtin; refine wpList_append_eq rfl rfl HR9.out rfl rfl ?_; clear HR9))
          go_roundw
          case rel => exact ⟨j + 1, _, by omega, by go_num, HM.out⟩
          case measure => simp [RowKit.intOf]; omega
        · subst heq
          obtain ⟨hk, hvl⟩ := HKV.out
          obtain ⟨h2, hF, hpost⟩ := H2.out
          obtain ⟨xr, hxr, hat⟩ := hr.rat (F := fun k => F k ∨ k = w.heap.size) (fun k hk => by
            rcases hk with hk | hk
            · have := hF k hk; omega
            · omega)
          obtain ⟨w9, hw9⟩ : ∃ w9, wt.setRow w.heap.size (ncells (.slice fa j fc) (.slice ka vals.length kc) fin forced) = w9 := ⟨_, rfl⟩
          have k9 : PBox w9 w.heap.size (ncells (.slice fa j fc) (.slice ka vals.length kc) fin forced) := by rw [← hw9]; exact hr.res.row _
          have hfin : post (.returned (.agg (ncells (.slice fa j fc) (.slice ka vals.length kc) fin forced))) w9 := by
            rw [hpost]
            rw [hvl] at hxr hat
            have hbl : Below w.heap.size w w9 := by rw [← hw9]; exact below_setRow hr.bl (Nat.le_refl _) _
            refine ⟨xr, by rw [hxr, hvl]; rfl, ?_, hbl⟩
            rw [← hw9]
            exact hat.keep (fun k hk hn => setRow_ne _ _ _ _ (fun e => hn (.inr e))) (fun _ _ h => .inl h)
          have hbx := hr.box
          have hrs := hr.res
          have hone : (ncells (.slice fa j fc) (.slice ka vals.length kc) fin forced).all (·.oneCell') = true := by simp [ncells, Value.oneCell']
          obtain ⟨csz, hcsz⟩ : ∃ csz, ncells (.slice fa j fc) (.slice ka vals.length kc) fin forced = csz := ⟨_, rfl⟩
          have HI9 : Hid ((Tryz.prog.info? 36).map (·.size) = some csz.size) := by rw [← hcsz]; exact info6
          rw [hcsz] at hw9 k9 hfin hbx hone
          have HBX := Lib.hid hbx
          have HRS := Lib.hid hrs
          have HON := Lib.hid hone
          have HFIN := Lib.hid (And.intro k9 hfin)
          clear hr hbx hrs hone hcsz hk hvl h2 hF hpost hxr hat k9 hfin hj H2 HKV HK1
          go_wp2_with (first | (refine wpList_load_row rfl _ _ rfl (w.heap.size + 1) rfl _ _ (0, 0) _ HBX.out Tryz.underlying36 rfl HI9.out ?_) | (refine wpList_store_row rfl _ _ _ rfl w.heap.size _ rfl rfl _ _ HRS.out HI9.out (by have := HI9.out; rw [info6] at this; injection this) HON.out ?_; rw [hw9]))
          exact bodyPost_ret (by simp [results, Tryz.results8, asAddr, Act.put, run_loadVar_row w9 w.heap.size 36 36 _ (0, 0) _ HFIN.out.1 Tryz.underlying36 rfl HI9.out]) rfl HFIN.out.2
end Mun
end

section
/- What Pin of chapter 8's own pool does, plainly. -/
set_option maxRecDepth 100000
set_option linter.unusedVariables false
set_option linter.unusedSimpArgs false
namespace Mun
open Go Go.RowKit
open Go.Proofs

/-- the clock over the reference's frames -/
inductive RClk : Nat → List RF → Nat → List RF → Nat → Nat → Prop
  | stop {fs : List RF} {h : Nat} {x : RF} : fs[h]? = some x → x.pins = 0 → x.touch = false → RClk 0 fs h fs ((h + 1) % fs.length) h
  | pin {k : Nat} {fs : List RF} {h : Nat} {x : RF} {fs' : List RF} {h' i : Nat} : fs[h]? = some x → 0 < x.pins → RClk k fs ((h + 1) % fs.length) fs' h' i → RClk (k + 1) fs h fs' h' i
  | tch {k : Nat} {fs : List RF} {h : Nat} {x : RF} {fs' : List RF} {h' i : Nat} : fs[h]? = some x → x.pins = 0 → x.touch = true → RClk k (fs.set h { x with touch := false }) ((h + 1) % fs.length) fs' h' i → RClk (k + 1) fs h fs' h' i

theorem RClk.inv {m : Nat} {fs : List RF} {h : Nat} {fs' : List RF} {h' i : Nat} (hc : RClk m fs h fs' h' i) {x : RF} (hx : fs[h]? = some x) :
    (0 < x.pins → ∃ k, m = k + 1 ∧ RClk k fs ((h + 1) % fs.length) fs' h' i) ∧
    (x.pins = 0 → x.touch = true → ∃ k, m = k + 1 ∧ RClk k (fs.set h { x with touch := false }) ((h + 1) % fs.length) fs' h' i) ∧
    (x.pins = 0 → x.touch = false → fs' = fs ∧ h' = (h + 1) % fs.length ∧ i = h) := by
  cases hc with
  | stop hy hp ht =>
    rw [hx] at hy; injection hy with hy; subst hy
    exact ⟨fun h => by omega, fun _ h => (by rw [ht] at h; cases h), fun _ _ => ⟨rfl, rfl, rfl⟩⟩
  | pin hy hp hc =>
    rw [hx] at hy; injection hy with hy; subst hy
    exact ⟨fun _ => ⟨_, rfl, hc⟩, fun h => by omega, fun h => by omega⟩
  | tch hy hp ht hc =>
    rw [hx] at hy; injection hy with hy; subst hy
    exact ⟨fun h => by omega, fun _ _ => ⟨_, rfl, hc⟩, fun _ h => (by rw [ht] at h; cases h)⟩
theorem RClk.lt {m : Nat} {fs : List RF} {h : Nat} {fs' : List RF} {h' i : Nat} (hc : RClk m fs h fs' h' i) : h < fs.length ∧ i < fs.length ∧ fs'.length = fs.length ∧ h' < fs.length := by
  induction hc with
  | stop hx hp ht => have := (List.getElem?_eq_some_iff.1 hx).1; exact ⟨this, this, rfl, Nat.mod_lt _ (by omega)⟩
  | pin hx hp hc ih => exact ⟨(List.getElem?_eq_some_iff.1 hx).1, ih.2⟩
  | tch hx hp ht hc ih =>
    obtain ⟨a, b, c, d⟩ := ih
    rw [List.length_set] at b c d
    exact ⟨(List.getElem?_eq_some_iff.1 hx).1, b, c, d⟩

def RF.pin (f : RF) : RF := { f with touch := true, pins := f.pins + 1 }
def rfNew (n : Nat) (b : Bytes) : RF := ⟨(n : Int), 1, true, b, 0, false⟩
/-- the frame that is found for a page that is not held, and the pool then -/
inductive RFound (p : RP) : RP → Nat → Prop
  | free {i : Nat} : p.find (-1) = some i → RFound p p i
  | clock {k : Nat} {fr : List RF} {h i : Nat} : p.find (-1) = none → (∃ g ∈ p.fr, g.pins = 0) → RClk k p.fr p.hand fr h i → RFound p (({ p with fr := fr, hand := h } : RP).out i) i
/-- what Pin does -/
inductive RPin (p : RP) (n : Nat) : RP → Bytes → Int → Prop
  | held {i : Nat} {g : RF} : p.find (n : Int) = some i → p.fr[i]? = some g → RPin p n { p with fr := p.fr.set i g.pin } g.b 0
  | full : p.find (n : Int) = none → p.find (-1) = none → (∀ g ∈ p.fr, 0 < g.pins) → RPin p n p [] 7
  | new {p1 : RP} {i : Nat} {b : Bytes} : p.find (n : Int) = none → RFound p p1 i → p1.dk[n]? = some b → checkP b = 0 → RPin p n { p1 with fr := p1.fr.set i (rfNew n b) } b 0
end Mun
end
