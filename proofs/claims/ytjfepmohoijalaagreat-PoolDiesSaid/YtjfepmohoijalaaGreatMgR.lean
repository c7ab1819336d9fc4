/- Texts of mine, one behind the other: PlH, PlI. -/
import Derived.Test.YtjfepmohoijalaaGreatPlG
section
/- Sync over a log. -/
set_option maxRecDepth 100000
set_option linter.unusedVariables false
set_option linter.unusedSimpArgs false
namespace Mun
open Go Go.RowKit
open Go.Proofs

def PX.sync (s : PX) : PX × Int :=
  if s.dm.sync.2 ≠ 0 then ({ s with dm := s.dm.sync.1 }, s.dm.sync.2)
  else ({ s with dm := s.dm.sync.1, pm := { s.pm with dt := s.pm.dt.filter (·.2.2) } }, 0)

theorem DtS.cons {p : Int × (Nat × Bool)} {dt : List (Int × (Nat × Bool))} (h : DtS (p :: dt)) : (∀ q ∈ dt, p.1 < q.1) ∧ DtS dt := by
  unfold DtS at h ⊢
  rw [List.map_cons, List.pairwise_cons] at h
  exact ⟨fun q hq => h.1 _ (List.mem_map_of_mem hq), h.2⟩
theorem dlook_iff {dt : List (Int × (Nat × Bool))} (h : DtS dt) (n : Int) (y : Nat × Bool) : dlook dt n = some y ↔ (n, y) ∈ dt := by
  induction dt with
  | nil => simp [dlook]
  | cons p ps ih =>
    obtain ⟨h1, h2⟩ := h.cons
    rw [dlook_cons, List.mem_cons]
    by_cases hp : p.1 = n
    · rw [if_pos hp]
      constructor
      · intro e
        injection e with e
        exact .inl (by rw [← hp, ← e])
      · rintro (e | e)
        · rw [← e]
        · have := h1 _ e
          simp only at this
          omega
    · rw [if_neg hp, ih h2]
      constructor
      · exact .inr
      · rintro (e | e)
        · exact absurd (by rw [← e]) hp
        · exact e
theorem DtS.filter {dt : List (Int × (Nat × Bool))} (h : DtS dt) (f : Int × (Nat × Bool) → Bool) : DtS (dt.filter f) := by
  unfold DtS at h ⊢
  rw [List.pairwise_map] at h ⊢
  exact h.filter f
theorem dlook_filter {dt : List (Int × (Nat × Bool))} (h : DtS dt) (n : Int) : dlook (dt.filter (·.2.2)) n = (dlook dt n).filter (·.2) := by
  apply Option.ext
  intro y
  rw [dlook_iff (h.filter _), List.mem_filter, Option.filter_eq_some_iff, dlook_iff h]

section
variable {w : World} {D L Pb : Nat} {s : PX} {x : PZ}

theorem PL.dvals (h : PL w D L Pb s x) : ∀ p ∈ x.v.ds, DVal p.2 := fun p hp => by
  have h1 := alook_mem x.v.ds h.rep.dm.nodup hp
  rw [h.rep.dlk] at h1
  obtain ⟨y, -, h2⟩ := Option.map_eq_some_iff.1 h1
  exact ⟨y.1, y.2, h2.symm⟩

set_option maxHeartbeats 1000000 in
theorem sync_pl (h : PL w D L Pb s x) (ho : s.dm.ops < 4398046511104) (hs : DtS s.pm.dt) :
    Calls Tryz.prog 16 #[.pointer (some ⟨Pb, 0, none⟩)] w fun e w' => ∃ v', v'.fs = x.v.fs ∧ PPost w D L Pb x s.sync v' e w' := by
  have c0 : w.cell? ⟨Pb, 0, none⟩ = some (.pointer (some ⟨D, 0, none⟩)) := by rw [h.rep.cell 0]; simp [pcells]
  have hsy := d_sync w D x.Fd s.dm h.disk ho
  obtain ⟨k, hk⟩ : ∃ k, s.dm.sync.2 = k := ⟨_, rfl⟩
  have hpx : s.sync = if k ≠ 0 then ({ s with dm := s.dm.sync.1 }, k) else ({ s with dm := s.dm.sync.1, pm := { s.pm with dt := s.pm.dt.filter (·.2.2) } }, 0) := by unfold PX.sync; rw [hk]
  obtain ⟨post, hpost⟩ : ∃ post : Ending → World → Prop, post = fun e w' => ∃ v', v'.fs = x.v.fs ∧ PPost w D L Pb x s.sync v' e w' := ⟨_, rfl⟩
  rw [← hpost]
  have HSY := Lib.hid hsy
  have HX := Lib.hid (And.intro h (And.intro hs (And.intro hk (And.intro hpx hpost))))
  clear h ho hs hsy hk hpx hpost
  go_enter Tryz.func16, Tryz.ntmps16
  go_wp2_with fail
  refine HSY.out.mono ?_
  rintro e w1 ⟨rfl, F', hd, hc⟩
  obtain ⟨h, hs, hk, hpx, hpost⟩ := HX.out
  obtain ⟨h1, c1⟩ := h.disk1 hd hc
  rw [hk]
  by_cases hk0 : k = 0
  · subst hk0
    obtain ⟨Md, hMd⟩ : ∃ Md, x.v.Md = Md := ⟨_, rfl⟩
    have d4 : w1.cell? ⟨Pb, 4, none⟩ = some (.map (some Md)) := by rw [← hMd, h1.rep.cell 4]; simp [pcells]
    have hdel := del_dirt w1 x.v.Md x.v.ds h1.rep.dm h1.dvals
    rw [hMd] at hdel
    have HDEL := Lib.hid hdel
    have HY := Lib.hid (And.intro h1 (And.intro c1 hMd))
    clear h hs hk hpx hpost h1 c1 hd hc hMd hdel HSY c0
    go_wp2_with fail
    refine HDEL.out.mono ?_
    rintro e w2 ⟨rfl, ds', hm2, hl2, hc2⟩
    have hfin : post (.returned (.int .i64 0)) w2 := by
      obtain ⟨h, hs, hk, hpx, hpost⟩ := HX.out
      obtain ⟨h1, c1, hMd⟩ := HY.out
      have hne := h1.rep.neMd
      have ho2 : ∀ k, k ≠ x.v.Md → k < w1.heap.size → w2.heap[k]? = w1.heap[k]? := fun k hk h9 => hc2.block k h9 (fun e => hk (by rw [hMd]; exact e))
      have hrep2 : PRep w2 Pb D L (PZ.af { x with Fd := F' } Pb L) { s.pm with dt := s.pm.dt.filter (·.2.2) } { x.v with ds := ds' } :=
        ⟨(ho2 _ h1.rep.neMd (h1.rep.lt Pb (.inl rfl))).trans h1.rep.blk, (ho2 _ h1.rep.neGMd (h1.rep.lt _ (.inr (.inl rfl)))).trans h1.rep.fbl, h1.rep.frs,
          fun z hz => RdV.keep (h1.rep.rd z hz) (fun k h9 hk => ho2 k (fun e => hk (.inl (.inl (.inr (.inr (.inr e)))))) h9) (fun _ _ h => h), h1.rep.mp.keep (ho2 _ h1.rep.ne (h1.rep.lt _ (.inr (.inr (.inl rfl))))), h1.rep.mok, by rw [← hMd] at hm2; exact hm2,
          fun n => by
            rw [hl2, h.rep.dlk, dlook_filter hs]
            cases dlook s.pm.dt n with
            | none => rfl
            | some y => obtain ⟨a, b⟩ := y; cases b <;> rfl, h1.rep.ne, h1.rep.hand, h1.rep.big⟩
      obtain ⟨h2, c2⟩ := h1.pool1 (v' := { x.v with ds := ds' }) rfl hrep2 (hc2.weak (fun k hk => .inr (.inr (.inr (by rw [hMd]; exact hk)))) (fun k hk => .inr (.inl hk)))
      rw [hpost]
      refine ⟨{ x.v with ds := ds' }, rfl, ?_⟩
      rw [hpx, if_neg (by simp)]
      exact ⟨rfl, { x with Fd := F', v := { x.v with ds := ds' } }, rfl, rfl, h2, c1.trans c2⟩
    have HF := Lib.hid hfin
    clear hfin hm2 hl2 hc2 d4
    go_wp2
    exact HF.out
  · have hfin : post (.returned (.int .i64 k)) w1 := by
      rw [hpost]
      refine ⟨x.v, rfl, ?_⟩
      rw [hpx, if_pos hk0]
      exact ⟨rfl, { x with Fd := F' }, rfl, rfl, h1, c1⟩
    have HF := Lib.hid hfin
    clear h hs hk hpx hpost h1 c1 hd hc hfin HSY c0
    go_wp2
    exact HF.out
end
end Mun
end

section
/- Dirty over a log. -/
set_option maxRecDepth 100000
set_option linter.unusedVariables false
set_option linter.unusedSimpArgs false
namespace Mun
open Go Go.RowKit
open Go.Proofs

theorem info_ent : (Tryz.prog.info? 69).map (fun i => (i.zero, i.size, i.bytes)) = some (some (.agg #[.int .i64 0, .int .u64 0]), 2, 16) := by kernel_rfl

/-- dirty pages as a row of two cells each -/
def ents (l : List (Int × (Nat × Bool))) : List Value := l.flatMap fun p => [Value.int .i64 p.1, Value.int .u64 (p.2.1 : Int)]
theorem ents_append (a b : List (Int × (Nat × Bool))) : ents (a ++ b) = ents a ++ ents b := by simp [ents]
theorem push_ent {w : World} {B : Nat} {ty : TypeId} {v : Value} {n : Nat} {xs : List Value} (a : Int) (r : Nat) (h : w.ownsRow B 69 2 v n xs) (hB : B ≤ w.heap.size) (hl : n < 16777216) :
    ∃ R cp w', (Builtin.append_ #[64, 64] ty #[v, .slice (some ⟨w.heap.size, 0, none⟩) 1 1]).run Tryz.prog (w.alloc (.cells #[.int .i64 a, .int .u64 (r : Int)] 69)) = .ok (.slice (some ⟨R, 0, none⟩) (n + 1) cp) w' ∧
      w'.ownsRow B 69 2 (.slice (some ⟨R, 0, none⟩) (n + 1) cp) (n + 1) (xs ++ [.int .i64 a, .int .u64 (r : Int)]) ∧ (w.alloc (.cells #[.int .i64 a, .int .u64 (r : Int)] 69)).grownBy w' v.ownBlock := by
  obtain ⟨i, hi, hz, h1, h2⟩ := info_of info_ent
  have hsrc : RdV (fun _ => False) (w.alloc (.cells #[.int .i64 a, .int .u64 (r : Int)] 69)) 2 (.slice (some ⟨w.heap.size, 0, none⟩) 1 1) 1 [.int .i64 a, .int .u64 (r : Int)] :=
    ⟨rfl, _, _, rfl, Nat.le_refl _, by unfold maxLen; omega, by simp, fun _ => ⟨w.heap.size, 0, _, _, (0, 0), rfl, fun h => h, heap_alloc_new w _, rfl⟩⟩
  obtain ⟨v', w', hr, ho, hg, hob, hnil⟩ := run_append_rd (P := Tryz.prog) (base := B) (ty := ty) Tryz.underlying64 hi hz h1 h2 (by rfl) (by decide) (World.ownsRow.alloc h _) hsrc
    (by intro u hu; simp at hu; rcases hu with rfl | rfl <;> rfl) (by omega) (by omega) (by simp; omega)
  rcases ho.2 with ⟨rfl, h0⟩ | ⟨R, cp, cur, rfl, hb, hR, hrest⟩
  · exact absurd (hnil.1 rfl).2 (by omega)
  · exact ⟨R, cp, w', hr, ho, hg⟩

theorem make_ent (n : Nat) (hn : n ≤ 16777216) (w : World) : ∃ w', (Instr.makeSlice 64 (.int .i64 0) (.int .i64 n)).run Tryz.prog w = .ok (.slice (some ⟨w.heap.size, 0, none⟩) 0 n) w' ∧ w'.ownsRow w.heap.size 69 2 (.slice (some ⟨w.heap.size, 0, none⟩) 0 n) 0 [] ∧ Below w.heap.size w w' := by
  obtain ⟨i, hi, hz, h1, h2⟩ := info_of info_ent
  have hr := run_make (P := Tryz.prog) w _ _ i _ Tryz.underlying64 hi hz .i64 .i64 0 n (by omega) (by omega) (by rw [h2]; omega) (by omega)
  rw [h1] at hr
  refine ⟨_, hr, ⟨rfl, .inr ⟨w.heap.size, n, _, rfl, Nat.le_refl _, heap_alloc_new w _, Nat.zero_le _, by unfold maxLen; omega, ?_, by simp⟩⟩, (Below.refl _ _).alloc (Nat.le_refl _) _⟩
  simp [madeCells]

section
variable {w : World} {D L Pb : Nat} {s : PX} {x : PZ}

theorem PL.dkeys (h : PL w D L Pb s x) (hs : DtS s.pm.dt) : (x.v.ds.map (·.1)).Perm (s.pm.dt.map (·.1)) := by
  refine (List.perm_ext_iff_of_nodup h.rep.dm.nodup ((show (s.pm.dt.map (·.1)).Pairwise (· < ·) from hs).imp (fun h => by omega))).2 fun n => ?_
  have hl := h.rep.dlk n
  constructor
  · intro hn
    cases ha : alook x.v.ds n with
    | none => exact absurd hn ((alook_none_iff _ _).1 ha)
    | some u =>
      rw [ha] at hl
      obtain ⟨y, hy, -⟩ := Option.map_eq_some_iff.1 hl.symm
      exact List.mem_map.2 ⟨_, (dlook_iff hs n y).1 hy, rfl⟩
  · intro hn
    obtain ⟨p, hp, rfl⟩ := List.mem_map.1 hn
    apply Classical.byContradiction
    intro hno
    rw [(alook_none_iff _ _).2 hno, (dlook_iff hs p.1 p.2).2 hp] at hl
    cases hl

def DirtyOut (w : World) (s : PX) (e : Ending) (w' : World) : Prop :=
  ∃ g c, e = .returned (.slice (some ⟨g, 0, none⟩) s.pm.dt.length c) ∧ w'.ownsRow w.heap.size 69 2 (.slice (some ⟨g, 0, none⟩) s.pm.dt.length c) s.pm.dt.length (ents s.pm.dt) ∧ Below w.heap.size w w'

set_option maxHeartbeats 1000000 in
theorem dirty_pl (h : PL w D L Pb s x) (hs : DtS s.pm.dt) (hpg : ∀ p ∈ s.pm.dt, 0 ≤ p.1 ∧ p.1 < 65536) (hlen : s.pm.dt.length ≤ 65536) :
    Calls Tryz.prog 26 #[.pointer (some ⟨Pb, 0, none⟩)] w (DirtyOut w s) := by
  have hks := h.dkeys hs
  have hdl : x.v.ds.length = s.pm.dt.length := by have := hks.length_eq; simpa using this
  obtain ⟨m, hm⟩ : ∃ m, s.pm.dt.length = m := ⟨_, rfl⟩
  obtain ⟨Md, hMd⟩ : ∃ Md, x.v.Md = Md := ⟨_, rfl⟩
  have c4 : w.cell? ⟨Pb, 4, none⟩ = some (.map (some Md)) := by rw [← hMd, h.rep.cell 4]; simp [pcells]
  have hln : ∀ ty, (Builtin.len_ #[98] ty #[.map (some Md)]).run Tryz.prog w = .ok (.int .i64 m) w := fun ty => by
    have h9 := imap_len (P := Tryz.prog) (ty := ty) Tryz.underlying98 h.rep.dm
    rw [hMd, hdl, hm] at h9
    exact h9
  obtain ⟨w1, hmk, hown1, hb1⟩ := make_ent m (by omega) w
  have h1 := h.below hb1
  have d4 : w1.cell? ⟨Pb, 4, none⟩ = some (.map (some Md)) := by rw [← hMd, h1.rep.cell 4]; simp [pcells]
  have hkw : ∀ p ∈ x.v.ds, (Lit.int .i64 p.1).wf = true := fun p hp => by
    obtain ⟨q, hq, hqe⟩ := List.mem_map.1 (hks.subset (List.mem_map_of_mem hp))
    have h2 := hpg q hq
    have e1 : IntKind.min .i64 = -9223372036854775808 := by decide
    have e2 : IntKind.max .i64 = 9223372036854775807 := by decide
    show (decide (IntKind.min .i64 ≤ p.1) && decide (p.1 ≤ IntKind.max .i64)) = true
    rw [e1, e2, Bool.and_eq_true, decide_eq_true_eq, decide_eq_true_eq]
    omega
  have hso := keysD_sorted w1 x.v.Md x.v.ds hkw (by omega) h1.rep.dm
  rw [hMd] at hso
  have hke := keysD_call (some Md) w1
  have HSO := Lib.hid hso
  have HKE := Lib.hid hke
  have HX := Lib.hid (And.intro h (And.intro hs (And.intro hks (And.intro hown1 (And.intro hb1 (And.intro hm (And.intro hMd (by omega : m ≤ 65536))))))))
  obtain ⟨post, hpost⟩ : ∃ post : Ending → World → Prop, post = DirtyOut w s := ⟨_, rfl⟩
  rw [← hpost]
  have HPO := Lib.hid hpost
  clear h hs hpg hlen hks hdl hm hMd hown1 hb1 h1 hkw hso hke hpost
  go_enter Tryz.func26, Tryz.ntmps26
  go_wp2_with fail
  refine HKE.out.mono ?_
  rintro e w' ⟨rfl, rfl⟩
  go_wp2_with fail
  refine HSO.out.mono ?_
  rintro e w2 ⟨q, ns, rfl, hperm, hris, hrow, hb2⟩
  obtain ⟨h, hs, hks, hown1, hb1, hm, hMd, hlen⟩ := HX.out
  obtain rfl : ns = s.pm.dt.map (·.1) := List.Perm.eq_of_pairwise (le := fun a b : Int => a ≤ b) (fun a b _ _ h1 h2 => by omega) hris ((show (s.pm.dt.map (·.1)).Pairwise (· < ·) from hs).imp (fun h => by omega)) (hperm.trans hks)
  have hrow : w2.ownsRow w1.heap.size 3 1 q m ((s.pm.dt.map (·.1)).map (Value.int .i64)) := by
    have h9 := hrow
    rw [List.length_map, hm] at h9
    exact h9
  obtain ⟨qa, qc, rfl, -, -⟩ := (RdV.of_own (F := NoF) hrow (fun _ _ => noF _)).form
  have hb02 : Below w.heap.size w w2 := hb1.trans (hb2.mono hb1.size)
  have hst : w2.ownsRow w.heap.size 69 2 (.slice (some ⟨w.heap.size, 0, none⟩) 0 m) 0 (ents (s.pm.dt.take 0)) :=
    ownsRow_keep hown1 (fun k hk => hb2.block k (hown1.lt k hk).2)
  have HY := Lib.hid (And.intro hrow (And.intro hb02 hst))
  have hm0 : (0 : Int) ≤ (m : Int) := by omega
  have hm6 : (m : Int) ≤ 65536 := by omega
  have HM := Lib.hid (And.intro hm hlen)
  have HH := Lib.hid (And.intro h (And.intro hs hMd))
  clear h hs hks hown1 hb1 hm hMd hlen hris hperm hrow hb2 hb02 hst HX HSO HKE c4 d4 hln hmk
  go_wp2
  go_loopw [3, 5, 19] (fun o _ j wr => ∃ (k g c : Nat), j = .int .i64 k ∧ o = .slice (some ⟨g, 0, none⟩) k c ∧ k ≤ m ∧ wr.ownsRow w.heap.size 69 2 (.slice (some ⟨g, 0, none⟩) k c) k (ents (s.pm.dt.take k)) ∧
      wr.ownsRow w1.heap.size 3 1 (.slice qa m qc) m ((s.pm.dt.map (·.1)).map (Value.int .i64)) ∧ Below w.heap.size w wr) (fun _ _ j _ => m - (RowKit.intOf j).toNat)
  case atStart => exact ⟨0, w.heap.size, m, rfl, rfl, Nat.zero_le _, HY.out.2.2, HY.out.1, HY.out.2.1⟩
  case round =>
    obtain ⟨k, g, c, rfl, rfl, hk, hown, hrow, hbr⟩ := hrel
    obtain ⟨h, hs, hMd⟩ := HH.out
    obtain ⟨hm, hlen⟩ := HM.out
    rcases Nat.lt_or_eq_of_le hk with hlt | rfl
    · obtain ⟨gq, off, c', e, -, -, -, -, hcell⟩ := (RdV.of_own (F := NoF) hrow (fun _ _ => noF _)).at_ (by omega)
      injection e with e1 e2 e3
      subst e1 e3
      clear e2
      obtain ⟨⟨n, rc, cc⟩, hn⟩ : ∃ p, s.pm.dt[k]? = some p := ⟨_, List.getElem?_eq_getElem (by omega)⟩
      have ck : wr.cell? ⟨gq, off + k, none⟩ = some (.int .i64 n) := by
        have h9 := hcell k (.int .i64 n) (by rw [List.getElem?_map, List.getElem?_map, hn]; rfl)
        simpa using h9
      have hr := h.below hbr
      have d4 : wr.cell? ⟨Pb, 4, none⟩ = some (.map (some Md)) := by rw [← hMd, hr.rep.cell 4]; simp [pcells]
      have hlk := imap_lookup1 (P := Tryz.prog) Tryz.underlying98 Tryz.underlying3 (zero_dirt wr) hr.rep.dm n
      rw [h.rep.dlk, (dlook_iff hs n (rc, cc)).2 (List.mem_of_getElem? hn), hMd] at hlk
      replace hlk : (Instr.lookup 98 (.map (some Md)) (.int .i64 n) false).run Tryz.prog wr = .ok (.agg #[.int .u64 (rc : Int), .bool cc]) wr := hlk
      have hfl := dirt_field (.int .u64 (rc : Int)) cc wr
      obtain ⟨R, cp, w9, hr9, ho9, hg9⟩ := push_ent (w := wr) (ty := 64) n rc hown hbr.size (by omega)
      have hbl := Below.alloc hbr hbr.size (.cells #[.int .i64 n, .int .u64 (rc : Int)] 69)
      have h9 : Hid (w9.ownsRow w.heap.size 69 2 (.slice (some ⟨R, 0, none⟩) (k + 1) cp) (k + 1) (ents (s.pm.dt.take (k + 1))) ∧
          w9.ownsRow w1.heap.size 3 1 (.slice (some ⟨gq, off, none⟩) m qc) m ((s.pm.dt.map (·.1)).map (Value.int .i64)) ∧ Below w.heap.size w w9) := by
        refine ⟨?_, ?_, hbl.grown hg9 (by have := hbr.size; simp; omega) (fun k hk => (hown.lt k hk).1)⟩
        · have ht : s.pm.dt.take (k + 1) = s.pm.dt.take k ++ [(n, rc, cc)] := by rw [List.take_add_one, hn]; rfl
          rw [ht, ents_append]
          exact ho9
        · refine ownsRow_keep (World.ownsRow.alloc hrow _) (fun kq hkq => hg9.block kq (by have := (hrow.lt kq hkq).2; simp; omega) (fun e => ?_))
          obtain ⟨cur1, hc1⟩ := ownsRow_blk hrow hkq
          obtain ⟨cur2, hc2⟩ := ownsRow_blk hown e.symm
          exact blk_ne hc1 hc2 (by decide) rfl
      have HR9 := Lib.hid hr9
      have HJ := Lib.hid hlt
      have hki : (k : Int) < (m : Int) := by omega
      have hk0 : (0 : Int) ≤ (k : Int) := by omega
      clear h hs hMd hm hlen hown hrow hbr hcell hn hr hr9 ho9 hg9 hbl hlt hk
      go_wp2_with (at_builtin; refine wpList_append_eq rfl rfl HR9.out rfl rfl ?_)
      go_roundw
      case rel => exact ⟨k + 1, _, _, rfl, rfl, by have := HJ.out; omega, h9.out.1, h9.out.2.1, h9.out.2.2⟩
      case measure => have := HJ.out; simp [RowKit.intOf]; omega
    · have hfin : post (.returned (.slice (some ⟨g, 0, none⟩) k c)) wr := by
        rw [HPO.out]
        refine ⟨g, c, by rw [hm], ?_, hbr⟩
        have h9 := hown
        rw [List.take_of_length_le (by omega)] at h9
        rw [hm]
        exact h9
      have HF := Lib.hid hfin
      clear h hs hMd hm hlen hown hrow hbr hfin hk
      go_wp2
      exact HF.out
end
end Mun
end
