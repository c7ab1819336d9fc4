/- Texts of mine, one behind the other: RpP, SimP. -/
import Derived.Test.YtjfepmohoijalaaGreatMgRc
import Derived.Test.YtjfepmohoijalaaGreatMgY
section
/- Chapter 8's own pool and the pool, plainly: what is the same of both stays the same. No program. -/
set_option maxRecDepth 100000
set_option linter.unusedVariables false
set_option linter.unusedSimpArgs false
namespace Mun
open Go Go.RowKit
open Go.Proofs

structure FLk (f : FM) (g : RF) : Prop where
  pg : g.pg = f.pg
  pins : g.pins = f.pins
  touch : g.touch = f.touch
  b : g.b = f.b
  chg : g.chg = f.chg
  lsn : f.chg = true → g.lsn = gt f.b 4 8

structure Lk (s : PX) (p : RP) : Prop where
  frl : p.fr.length = s.pm.fr.length
  fr : ∀ (i : Nat) (f : FM), s.pm.fr[i]? = some f → ∃ g, p.fr[i]? = some g ∧ FLk f g
  neg : ∀ f ∈ s.pm.fr, -1 ≤ f.pg
  hand : p.hand = s.pm.hand
  dt : p.dt = s.pm.dt
  dkl : p.dk.length = s.dm.base.length
  dk : ∀ j, j < s.dm.base.length → p.dk[j]? = some (s.dm.page j)
  fin : p.fin = s.lm.fin
  forced : p.forced = s.lm.base + s.lm.forced

theorem dset_clr {dt : List (Int × (Nat × Bool))} (h : DtS dt) {n : Int} {r : Nat} {c : Bool} (hd : dlook dt n = some (r, c)) : dset dt n (r, false) = dt.map (clr n) := by
  induction dt with
  | nil => cases hd
  | cons p ps ih =>
    obtain ⟨h1, h2⟩ := h.cons
    rw [dlook_cons] at hd
    unfold dset
    by_cases hp : p.1 = n
    · rw [if_pos hp] at hd ⊢
      injection hd with hd
      have e : clr n p = (n, (r, false)) := by unfold clr; rw [if_pos hp, hd, hp]
      have e2 : ps.map (clr n) = ps := by
        conv => rhs; rw [← List.map_id ps]
        refine List.map_congr_left fun q hq => ?_
        have := h1 q hq
        unfold clr
        rw [if_neg (by omega)]
        rfl
      rw [List.map_cons, e, e2]
    · rw [if_neg hp] at hd ⊢
      have hmem := (dlook_iff h2 n (r, c)).1 hd
      have := h1 _ hmem
      have hlt : p.1 < n := this
      rw [if_neg (by omega), List.map_cons, ih h2 hd]
      have e : clr n p = p := by unfold clr; rw [if_neg hp]
      rw [e]

theorem dset_found {dt : List (Int × (Nat × Bool))} (h : DtS dt) {n : Int} (y : Nat × Bool) : ∀ {k : Nat} {d : Int × (Nat × Bool)}, dt[k]? = some d → d.1 = n → dset dt n y = dt.set k (n, y) := by
  induction dt with
  | nil => intro k d hd; simp at hd
  | cons p ps ih =>
    intro k d hd hn
    obtain ⟨h1, h2⟩ := h.cons
    unfold dset
    cases k with
    | zero =>
      simp only [List.getElem?_cons_zero, Option.some.injEq] at hd
      subst hd
      rw [if_pos hn, List.set_cons_zero]
    | succ k =>
      simp only [List.getElem?_cons_succ] at hd
      have := h1 d (List.mem_of_getElem? hd)
      rw [if_neg (by omega), if_neg (by omega), List.set_cons_succ, ih h2 hd hn]
theorem dset_none {dt : List (Int × (Nat × Bool))} {n : Int} (y : Nat × Bool) (hn : ∀ d ∈ dt, d.1 ≠ n) : ∀ {a : Nat}, a ≤ dt.length → (∀ (i : Nat) (d : Int × (Nat × Bool)), dt[i]? = some d → (d.1 < n ↔ i < a)) → dset dt n y = dt.take a ++ (n, y) :: dt.drop a := by
  induction dt with
  | nil => intro a ha _; simp only [List.length_nil, Nat.le_zero] at ha; subst ha; rfl
  | cons p ps ih =>
    intro a ha hi
    have h0 := hi 0 p rfl
    have hp := hn p (List.mem_cons_self ..)
    unfold dset
    rw [if_neg hp]
    by_cases hlt : p.1 < n
    · have ha1 := h0.1 hlt
      obtain ⟨a, rfl⟩ : ∃ b, a = b + 1 := ⟨a - 1, by omega⟩
      rw [if_neg (by omega), List.take_succ_cons, List.drop_succ_cons, List.cons_append, ih (fun d hd => hn d (List.mem_cons_of_mem _ hd)) (by simpa using ha) (fun i d hd => by
        have := hi (i + 1) d (by simpa using hd)
        omega)]
    · have ha0 : a = 0 := by
        have : ¬ 0 < a := fun h => hlt (h0.2 h)
        omega
      subst ha0
      rw [if_pos (by omega), List.take_zero, List.drop_zero]
      rfl
theorem atTo_is {dt : List (Int × (Nat × Bool))} (h : DtS dt) (n : Int) : ∀ k, k ≤ dt.length → ∀ (i : Nat) (d : Int × (Nat × Bool)), dt[i]? = some d → i < k → (d.1 < n ↔ i < atTo dt n k)
  | 0, _, i, d, hd, hi => by omega
  | k + 1, hk, i, d, hd, hi => by
    obtain ⟨e, he⟩ : ∃ e, dt[k]? = some e := ⟨_, List.getElem?_eq_getElem (by omega)⟩
    have hle := atTo_le dt n k
    have hm : i < k → d.1 < e.1 := fun hik => by
      have hp := List.pairwise_iff_getElem.1 (show (dt.map (·.1)).Pairwise (· < ·) from h) i k (by simp; omega) (by simp; omega) hik
      simp only [List.getElem_map] at hp
      have h1 := (List.getElem?_eq_some_iff.1 hd).2
      have h2 := (List.getElem?_eq_some_iff.1 he).2
      rw [h1, h2] at hp
      exact hp
    unfold atTo
    rw [he]
    simp only
    by_cases hen : e.1 < n
    · rw [if_pos hen]
      refine ⟨fun _ => hi, fun _ => ?_⟩
      rcases Nat.lt_or_eq_of_le (Nat.le_of_lt_succ hi) with h9 | h9
      · have := hm h9; omega
      · subst h9
        rw [hd] at he
        injection he with he
        rw [he]; exact hen
    · rw [if_neg hen]
      rcases Nat.lt_or_eq_of_le (Nat.le_of_lt_succ hi) with h9 | h9
      · exact atTo_is h n k (by omega) i d hd h9
      · subst h9
        rw [hd] at he
        injection he with he
        rw [he]
        exact ⟨fun h9 => absurd h9 hen, fun h9 => by omega⟩
theorem dset_rput {dt : List (Int × (Nat × Bool))} (h : DtS dt) (n : Int) (lsn : Nat) : dset dt n (((dlook dt n).map (·.1)).getD lsn, true) = rput dt n lsn := by
  unfold rput
  cases hf : dt.findIdx? (·.1 == n) with
  | some k =>
    obtain ⟨hk, hkn, -⟩ := List.findIdx?_eq_some_iff_getElem.1 hf
    have hkn' : dt[k].1 = n := by simpa using hkn
    have hd : dt[k]? = some dt[k] := List.getElem?_eq_getElem hk
    simp only
    rw [hd]
    simp only
    have hl : dlook dt n = some dt[k].2 := (dlook_iff h n dt[k].2).2 (by rw [← hkn']; exact List.getElem_mem hk)
    rw [hl, dset_found h _ hd hkn']
    simp only [Option.map_some, Option.getD_some]
    unfold mkOn
    rw [hkn']
  | none =>
    rw [List.findIdx?_eq_none_iff] at hf
    have hno : ∀ d ∈ dt, d.1 ≠ n := fun d hd => by simpa using hf d hd
    have hl : dlook dt n = none := by
      cases hl : dlook dt n with
      | none => rfl
      | some y => exact absurd rfl (hno _ ((dlook_iff h n y).1 hl))
    rw [hl]
    simp only [Option.map_none, Option.getD_none]
    exact dset_none _ hno (atTo_le _ _ _) (fun i d hd => atTo_is h n dt.length (Nat.le_refl _) i d hd (List.getElem?_eq_some_iff.1 hd).1)

theorem force_forced {s : PX} (hd : s.dm.dead = false) (hf : s.dm.fuse = -1) (l : Nat) : (s.force l).1.lm.base + (s.force l).1.lm.forced = (if s.lm.base + s.lm.forced ≤ l then s.lm.fin else s.lm.base + s.lm.forced) ∧ (s.force l).1.dm.base = s.dm.base := by
  unfold PX.force
  split
  · rename_i h
    rw [if_neg (by omega)]
    exact ⟨rfl, rfl⟩
  · rename_i h
    rw [force_live hd hf, if_pos (show s.lm.base + s.lm.forced ≤ l by omega)]
    exact ⟨rfl, rfl⟩

section
variable {n : Nat} {s : PX} {p : RP} {last : List Bytes}

theorem Lk.back (h : Lk s p) {i : Nat} {g : RF} (hg : p.fr[i]? = some g) : ∃ f, s.pm.fr[i]? = some f ∧ FLk f g := by
  have hi := (List.getElem?_eq_some_iff.1 hg).1
  have hl := h.frl
  obtain ⟨f, hf⟩ : ∃ f, s.pm.fr[i]? = some f := ⟨_, List.getElem?_eq_getElem (by omega)⟩
  obtain ⟨g', hg', hk⟩ := h.fr i f hf
  rw [hg] at hg'
  injection hg' with hg'
  rw [hg']
  exact ⟨f, hf, hk⟩
theorem Lk.pgs (h : Lk s p) : p.fr.map (·.pg) = s.pm.fr.map (·.pg) := by
  apply List.ext_getElem?
  intro i
  rw [List.getElem?_map, List.getElem?_map]
  cases hf : s.pm.fr[i]? with
  | none =>
    rw [List.getElem?_eq_none_iff] at hf
    rw [List.getElem?_eq_none (by rw [h.frl]; exact hf)]
    rfl
  | some f =>
    obtain ⟨g, hg, hk⟩ := h.fr i f hf
    rw [hg]
    simp only [Option.map_some, hk.pg]
theorem findIdx_map {α β : Type} (f : α → β) (q : β → Bool) (l : List α) : (l.map f).findIdx? q = l.findIdx? (q ∘ f) := by
  induction l with
  | nil => rfl
  | cons a l ih => simp only [List.map_cons, List.findIdx?_cons, ih, Function.comp]
theorem Lk.find (h : Lk s p) (k : Int) : p.find k = s.pm.find k := by
  have h1 : p.find k = (p.fr.map (·.pg)).findIdx? (· == k) := (findIdx_map (fun f : RF => f.pg) (· == k) p.fr).symm
  have h2 : s.pm.find k = (s.pm.fr.map (·.pg)).findIdx? (· == k) := (findIdx_map (fun f : FM => f.pg) (· == k) s.pm.fr).symm
  rw [h1, h2, h.pgs]

/-- one frame turns on both sides -/
theorem Lk.setF {P : PM} {fr : List RF} (h : ∀ (i : Nat) (f : FM), P.fr[i]? = some f → ∃ g, fr[i]? = some g ∧ FLk f g) (hl : fr.length = P.fr.length) {i : Nat} {f' : FM} {g' : RF} (hk : FLk f' g') :
    ∀ (j : Nat) (f : FM), (P.fr.set i f')[j]? = some f → ∃ g, (fr.set i g')[j]? = some g ∧ FLk f g := by
  intro j f hf
  rcases set_cases hf with ⟨e1, e2, hi⟩ | ⟨e1, hf⟩
  · subst e1 e2
    exact ⟨g', List.getElem?_set_self (by omega), hk⟩
  · obtain ⟨g, hg, hk2⟩ := h j f hf
    exact ⟨g, by rw [List.getElem?_set_ne e1]; exact hg, hk2⟩

theorem Lk.out (h : TI n s last) (hl : Lk s p) (i : Nat) : Lk (s.out i).1 (p.out i) := by
  unfold PX.out RP.out
  cases hf : s.pm.fr[i]? with
  | none =>
    have hp : p.fr[i]? = none := by
      rw [List.getElem?_eq_none_iff] at hf ⊢
      rw [hl.frl]; exact hf
    rw [hp]
    exact hl
  | some f =>
    obtain ⟨g, hg, hk⟩ := hl.fr i f hf
    rw [hg]
    simp only
    have hm := List.mem_of_getElem? hf
    by_cases hc : f.chg = false
    · rw [if_pos (.inr hc), if_pos (by rw [hk.chg]; exact hc)]
      exact hl
    · have hc' : f.chg = true := by cases hc2 : f.chg; exact absurd hc2 hc; rfl
      obtain ⟨h0, hgd, hls, r, hdl⟩ := h.chg f hm hc'
      rw [if_neg (show ¬ (f.pg < 0 ∨ f.chg = false) from fun e => e.elim (fun e => by omega) hc), if_neg (show ¬ g.chg = false by rw [hk.chg]; exact hc)]
      obtain ⟨k0, hI, hpm, hlf, hfin, hpgs⟩ := h.force (gt f.b 4 8)
      obtain ⟨hfd, hbs⟩ := force_forced h.alive h.fuse (gt f.b 4 8)
      obtain ⟨s1, hs1⟩ : ∃ s1, (s.force (gt f.b 4 8)).1 = s1 := ⟨_, rfl⟩
      rw [hs1] at hI hpm hfin hpgs hfd hbs ⊢
      rw [if_neg (by rw [k0]; simp)]
      have hpn := h.pg f hm
      obtain ⟨q, hqe⟩ : ∃ q : Nat, f.pg = (q : Int) := ⟨f.pg.toNat, by omega⟩
      have hqn : q < n := by omega
      rw [hqe, write_live hI.alive hI.fuse q (by rw [hI.base]; exact hqn) f.b hgd.len]
      simp only [ne_eq, not_true_eq_false, if_false]
      have hpw := page_write s1.dm q f.b (s1.dm.ops + 1)
      have hdr : drec s.pm.dt (q : Int) = r := by unfold drec; rw [← hqe, hdl]; rfl
      have hgl := hk.lsn hc'
      have hgpg : g.pg = (q : Int) := hk.pg.trans hqe
      refine ⟨?_, ?_, fun f' hf' => ?_, hl.hand, ?_, ?_, fun j hj => ?_, hl.fin.trans hfin.symm, ?_⟩
      · show (p.fr.set i g.clean).length = (s.pm.fr.set i f.clean).length
        rw [List.length_set, List.length_set]; exact hl.frl
      · exact Lk.setF hl.fr hl.frl (f' := f.clean) (g' := g.clean) ⟨hk.pg, hk.pins, hk.touch, hk.b, rfl, fun e => by cases e⟩
      · rcases List.mem_or_eq_of_mem_set (show f' ∈ s.pm.fr.set i f.clean from hf') with h9 | h9
        · exact hl.neg f' h9
        · rw [h9]; exact hl.neg f hm
      · show p.dt.map (clr g.pg) = dset s.pm.dt (q : Int) (drec s.pm.dt (q : Int), false)
        rw [hdr, hl.dt, hgpg]
        exact (dset_clr h.dts (by rw [← hqe]; exact hdl)).symm
      · show (p.dk.set g.pg.toNat g.b).length = s1.dm.base.length
        rw [List.length_set, hbs]; exact hl.dkl
      · show (p.dk.set g.pg.toNat g.b)[j]? = some (DM.page _ j)
        have hj : j < s1.dm.base.length := hj
        rw [hbs] at hj
        rw [hpw, hpgs, hgpg, Int.toNat_natCast, List.getElem?_set]
        by_cases hjq : q = j
        · rw [if_pos hjq, if_pos (by rw [hl.dkl, h.base]; exact hqn), if_pos hjq.symm, hk.b]
        · rw [if_neg hjq, if_neg (fun e => hjq e.symm)]
          exact hl.dk j hj
      · show (if p.forced ≤ g.lsn then p.fin else p.forced) = s1.lm.base + s1.lm.forced
        rw [hfd, hgl, hl.forced, hl.fin]

theorem Lk.wr (h : TI n s last) (hl : Lk s p) (k : Int) : Lk (s.wr k).1 (p.write k).1 ∧ (s.wr k).2 = (p.write k).2 := by
  have h1 := hl.find k
  unfold PX.wr RP.write
  rw [h1]
  split
  · exact ⟨hl, rfl⟩
  · cases hf : s.pm.find k with
    | none => exact ⟨hl, rfl⟩
    | some i => exact ⟨hl.out h i, (h.outI i).1⟩

def PX.heldTo (s : PX) (k : Nat) : List Int := ((List.range k).map fun (n : Nat) => (n : Int)).filter fun n => s.pm.fr.any (·.pg == n)
theorem any_find (fr : List FM) (k : Int) : fr.any (·.pg == k) = (fr.findIdx? (·.pg == k)).isSome := by rw [List.findIdx?_isSome]
theorem pgs_any {a b : List FM} (h : a.map (·.pg) = b.map (·.pg)) (k : Int) : a.any (·.pg == k) = b.any (·.pg == k) := by
  have e : ∀ l : List FM, l.any (·.pg == k) = (l.map (·.pg)).any (· == k) := fun l => by rw [List.any_map]; rfl
  rw [e, e, h]
theorem Lk.outsTo (h : TI n s last) (hl : Lk s p) : ∀ k, k ≤ n → (s.outs (s.heldTo k)).2 = 0 ∧ TI n (s.outs (s.heldTo k)).1 last ∧ (s.outs (s.heldTo k)).1.pm.fr.map (·.pg) = s.pm.fr.map (·.pg) ∧ Lk (s.outs (s.heldTo k)).1 (p.outsN k)
  | 0, _ => ⟨rfl, h, rfl, hl⟩
  | k + 1, hk => by
    obtain ⟨a0, a1, a2, a3⟩ := Lk.outsTo h hl k (by omega)
    have hlt : s.heldTo (k + 1) = s.heldTo k ++ (if s.pm.fr.any (·.pg == (k : Int)) then [(k : Int)] else []) := by
      unfold PX.heldTo
      rw [List.range_succ, List.map_append, List.filter_append, List.map_singleton]
      congr 1
      cases hc : s.pm.fr.any (·.pg == (k : Int)) <;> simp [List.filter, hc]
    have hfn := a3.find (k : Int)
    have hany := pgs_any a2 (k : Int)
    rw [any_find] at hany
    unfold RP.outsN
    rw [hlt, hfn]
    unfold PM.find
    cases hc : s.pm.fr.any (·.pg == (k : Int)) with
    | false =>
      rw [hc] at hany
      rw [if_neg (by decide), List.append_nil]
      rw [Option.isSome_eq_false_iff, Option.isNone_iff_eq_none] at hany
      rw [hany]
      exact ⟨a0, a1, a2, a3⟩
    | true =>
      rw [hc] at hany
      rw [if_pos rfl, outs_snoc s _ _ a0]
      obtain ⟨i, hi⟩ := Option.isSome_iff_exists.1 hany
      rw [hi]
      simp only
      have e : (s.outs (s.heldTo k)).1.wr (k : Int) = (s.outs (s.heldTo k)).1.out i := by
        unfold PX.wr
        rw [if_neg (by omega), show (s.outs (s.heldTo k)).1.pm.find (k : Int) = some i from hi]
      rw [e]
      obtain ⟨k0, hI, -, -, -⟩ := a1.outI i
      exact ⟨k0, hI, (out_pgs _ i).trans a2, a3.out a1 i⟩
theorem Lk.writeAll (h : TI n s last) (hl : Lk s p) : Lk (s.outs s.heldL).1 p.writeAll ∧ (s.outs s.heldL).2 = 0 := by
  obtain ⟨a0, -, -, a3⟩ := Lk.outsTo h hl n (Nat.le_refl _)
  have e : s.heldL = s.heldTo n := by unfold PX.heldL PX.heldTo; rw [h.base]
  unfold RP.writeAll
  rw [e, hl.dkl, h.base]
  exact ⟨a3, a0⟩

theorem Lk.sync (h : TI n s last) (hl : Lk s p) : Lk s.sync.1 p.sync := by
  have e : s.sync = ({ s with dm := { s.dm with ops := s.dm.ops + 1, base := s.dm.settled, waiting := [] }, pm := { s.pm with dt := s.pm.dt.filter (·.2.2) } }, 0) := by
    unfold PX.sync
    rw [sync_live h.alive h.fuse]
    simp
  rw [e]
  refine ⟨hl.frl, hl.fr, hl.neg, hl.hand, ?_, ?_, fun j hj => ?_, hl.fin, hl.forced⟩
  · show p.dt.filter _ = s.pm.dt.filter _
    rw [hl.dt]
  · show p.dk.length = s.dm.settled.length
    rw [settled_length]; exact hl.dkl
  · have hj : j < s.dm.settled.length := hj
    rw [settled_length] at hj
    show p.dk[j]? = some (DM.page _ j)
    have : ({ s.dm with ops := s.dm.ops + 1, base := s.dm.settled, waiting := [] } : DM).page j = s.dm.page j := by
      unfold DM.page
      simp only [lastW_nil, Option.getD_none]
      exact settled_getD s.dm j hj
    rw [this]; exact hl.dk j hj

theorem Lk.app (h : TI n s last) (hl : Lk s p) : Lk s.app.1 { p with fin := s.app.1.lm.fin } ∧ (s.app.2 ≠ 0 → Lk s.app.1 p) := by
  unfold PX.app
  rw [append_live h.alive h.fuse]
  by_cases hr : s.dm.room < s.dm.log.length + (recB r1 s.lm.fin).length
  · rw [if_pos hr, if_pos (show (s.dm, (7 : Int)).2 ≠ 0 by simp)]
    exact ⟨⟨hl.frl, hl.fr, hl.neg, hl.hand, hl.dt, hl.dkl, hl.dk, rfl, hl.forced⟩, fun _ => hl⟩
  · rw [if_neg hr, if_neg (fun e => e rfl)]
    exact ⟨⟨hl.frl, hl.fr, hl.neg, hl.hand, hl.dt, hl.dkl, hl.dk, rfl, hl.forced⟩, fun e => absurd rfl e⟩

theorem Lk.put (h : TI n s last) (hl : Lk s p) {i : Nat} {f : FM} (hf : s.pm.fr[i]? = some f) {b : Bytes} (hb : b.length = 512) {l : Nat} (hl64 : l < 18446744073709551616) {g : RF} (hg : p.fr[i]? = some g) :
    Lk (s.put i f b l) { p with fr := p.fr.set i (g.putF b l), dt := rput p.dt f.pg l } := by
  obtain ⟨g', hg', hk⟩ := hl.fr i f hf
  rw [hg] at hg'
  injection hg' with hg'
  subst hg'
  refine ⟨?_, ?_, fun f' hf' => ?_, hl.hand, ?_, hl.dkl, hl.dk, hl.fin, hl.forced⟩
  · show (p.fr.set i _).length = (s.pm.fr.set i _).length
    rw [List.length_set, List.length_set]; exact hl.frl
  · exact Lk.setF hl.fr hl.frl (f' := { f with b := sealP b l, chg := true }) (g' := g.putF b l) ⟨hk.pg, hk.pins, hk.touch, rfl, rfl, fun _ => (gt_seal_lsn hb l hl64).symm⟩
  · rcases List.mem_or_eq_of_mem_set (show f' ∈ s.pm.fr.set i { f with b := sealP b l, chg := true } from hf') with h9 | h9
    · exact hl.neg f' h9
    · rw [h9]; exact hl.neg f (List.mem_of_getElem? hf)
  · show rput p.dt f.pg l = dset s.pm.dt f.pg _
    rw [hl.dt, dset_rput h.dts]

theorem Lk.setFr (hl : Lk s p) {i : Nat} {f' : FM} {g' : RF} (hk : FLk f' g') (hn : -1 ≤ f'.pg) (hand : Nat) : Lk { s with pm := { s.pm with fr := s.pm.fr.set i f' } } { p with fr := p.fr.set i g' } := by
  refine ⟨?_, ?_, fun f hf => ?_, hl.hand, hl.dt, hl.dkl, hl.dk, hl.fin, hl.forced⟩
  · show (p.fr.set i _).length = (s.pm.fr.set i _).length
    rw [List.length_set, List.length_set]; exact hl.frl
  · exact Lk.setF hl.fr hl.frl hk
  · rcases List.mem_or_eq_of_mem_set (show f ∈ s.pm.fr.set i f' from hf) with h9 | h9
    · exact hl.neg f h9
    · rw [h9]; exact hn

/-- the clock, on both sides -/
theorem clk_link {k : Nat} {fs : List FV} {h : Nat} {fs' : List FV} {h' i : Nat} (hc : ClockN k fs h fs' h' i) : ∀ (fr : List RF), fr.length = fs.length → (∀ (i : Nat) (x : FV), fs[i]? = some x → ∃ g, fr[i]? = some g ∧ FLk x.1 g) →
    ∃ fr', RClk k fr h fr' h' i ∧ fr'.length = fs'.length ∧ ∀ (i : Nat) (x : FV), fs'[i]? = some x → ∃ g, fr'[i]? = some g ∧ FLk x.1 g := by
  induction hc with
  | stop hx hp ht =>
    intro fr hl hk
    obtain ⟨g, hg, hg2⟩ := hk _ _ hx
    refine ⟨fr, ?_, hl, hk⟩
    rw [← hl]
    exact .stop hg (hg2.pins.trans hp) (hg2.touch.trans ht)
  | pin hx hp hc ih =>
    intro fr hl hk
    obtain ⟨g, hg, hg2⟩ := hk _ _ hx
    obtain ⟨fr', h1, h2⟩ := ih fr hl hk
    rw [← hl] at h1
    exact ⟨fr', .pin hg (by rw [hg2.pins]; exact hp) h1, h2⟩
  | @tch k fs h x fs' h' i hx hp ht hc ih =>
    intro fr hl hk
    obtain ⟨g, hg, hg2⟩ := hk _ _ hx
    obtain ⟨fr', h1, h2⟩ := ih (fr.set h { g with touch := false }) (by rw [List.length_set, List.length_set]; exact hl) (fun j y hy => by
      rw [List.getElem?_set] at hy
      by_cases hij : h = j
      · subst hij
        rw [if_pos rfl, if_pos (List.getElem?_eq_some_iff.1 hx).1] at hy
        injection hy with hy
        subst hy
        exact ⟨{ g with touch := false }, List.getElem?_set_self (List.getElem?_eq_some_iff.1 hg).1, ⟨hg2.pg, hg2.pins, rfl, hg2.b, hg2.chg, hg2.lsn⟩⟩
      · rw [if_neg hij] at hy
        obtain ⟨g', hg', hk'⟩ := hk j y hy
        exact ⟨g', by rw [List.getElem?_set_ne hij]; exact hg', hk'⟩)
    rw [← hl] at h1
    exact ⟨fr', .tch hg (hg2.pins.trans hp) (hg2.touch.trans ht) h1, h2⟩

/-- what is found, on both sides -/
theorem Lk.found {v v1 : PLV} {p1 : PM} {r : Int} (hl : Lk s p) (hfr : s.pm.fr = v.fs.map (·.1)) (hf : FoundIs s.pm v r p1 v1) :
    (r = -1 ∧ p1 = s.pm ∧ p.find (-1) = none ∧ ∀ g ∈ p.fr, 0 < g.pins) ∨
    (∃ (i : Nat) (q : RP), r = (i : Int) ∧ Lk { s with pm := p1 } q ∧ ((p.find (-1) = some i ∧ q = p ∧ p1 = s.pm ∧ (∀ f, s.pm.fr[i]? = some f → f.pg < 0)) ∨ (p.find (-1) = none ∧ (∃ g ∈ p.fr, g.pins = 0) ∧ ∃ k fr h, RClk k p.fr p.hand fr h i ∧ q = { p with fr := fr, hand := h }))) := by
  have hlk : ∀ (i : Nat) (x : FV), v.fs[i]? = some x → ∃ g, p.fr[i]? = some g ∧ FLk x.1 g := fun i x hx => hl.fr i x.1 (by rw [hfr, List.getElem?_map, hx]; rfl)
  have hfl : p.fr.length = v.fs.length := by rw [hl.frl, hfr, List.length_map]
  have hge : (∀ x ∈ v.fs, 0 ≤ x.1.pg) → p.find (-1) = none := fun ha => by
    rw [hl.find]
    unfold PM.find
    rw [List.findIdx?_eq_none_iff]
    intro f hf
    rw [hfr] at hf
    obtain ⟨x, hx, rfl⟩ := List.mem_map.1 hf
    have := ha x hx
    simp only [beq_eq_false_iff_ne, ne_eq]
    omega
  cases hf with
  | @free i x hx hn hall =>
    right
    refine ⟨i, p, rfl, hl, .inl ⟨?_, rfl, rfl, fun f hf => ?_⟩⟩
    · obtain ⟨g, hg, hk⟩ := hlk i x hx
      refine findIdx_step _ _ i (fun j y hy hj => ?_) g hg ?_
      · obtain ⟨z, hz⟩ : ∃ z, v.fs[j]? = some z := ⟨_, List.getElem?_eq_getElem (by have := (List.getElem?_eq_some_iff.1 hx).1; omega)⟩
        obtain ⟨g', hg', hk'⟩ := hlk j z hz
        rw [hy] at hg'
        injection hg' with hg'
        subst hg'
        have := hall j z hz hj
        rw [← hk'.pg] at this
        simp only [beq_eq_false_iff_ne, ne_eq]
        omega
      · have h1 := hl.neg x.1 (by rw [hfr]; exact List.mem_map_of_mem (List.mem_of_getElem? hx))
        have h2 := hk.pg
        simp only [beq_iff_eq]
        omega
    · rw [hfr, List.getElem?_map, hx] at hf
      simp only [Option.map_some, Option.some.injEq] at hf
      rw [← hf]; exact hn
  | full ha hp =>
    left
    refine ⟨rfl, rfl, hge ha, fun g hg => ?_⟩
    obtain ⟨i, hi, rfl⟩ := List.getElem_of_mem hg
    obtain ⟨f, hf, hk⟩ := hl.back (List.getElem?_eq_getElem hi)
    rw [hk.pins]
    rw [hfr] at hf
    obtain ⟨x, hx, rfl⟩ := List.mem_map.1 (List.mem_of_getElem? hf)
    exact hp x hx
  | @clock k fs h i ha hc =>
    right
    obtain ⟨fr', h1, h2, h3⟩ := clk_link hc p.fr hfl hlk
    obtain ⟨hsm, hh, x, hx, hxp, -⟩ := hc.facts
    refine ⟨i, { p with fr := fr', hand := h }, rfl, ⟨?_, fun j f hf => ?_, fun f hf => ?_, rfl, hl.dt, hl.dkl, hl.dk, hl.fin, hl.forced⟩, .inr ⟨hge ha, ?_, k, fr', h, by rw [hl.hand]; exact h1, rfl⟩⟩
    · show fr'.length = (fs.map (·.1)).length
      rw [List.length_map]; exact h2
    · have hf : (fs.map (·.1))[j]? = some f := hf
      rw [List.getElem?_map] at hf
      obtain ⟨z, hz, rfl⟩ := Option.map_eq_some_iff.1 hf
      exact h3 j z hz
    · have hf : f ∈ fs.map (·.1) := hf
      obtain ⟨z, hz, rfl⟩ := List.mem_map.1 hf
      obtain ⟨j, hj, rfl⟩ := List.getElem_of_mem hz
      obtain ⟨y, hy⟩ : ∃ y, v.fs[j]? = some y := ⟨_, List.getElem?_eq_getElem (by rw [← hsm.1]; exact hj)⟩
      obtain ⟨z', hz', e1, -⟩ := hsm.2 j y hy
      rw [List.getElem?_eq_getElem hj] at hz'
      injection hz' with hz'
      rw [hz', e1]
      exact hl.neg y.1 (by rw [hfr]; exact List.mem_map_of_mem (List.mem_of_getElem? hy))
    · obtain ⟨y, hy⟩ : ∃ y, v.fs[i]? = some y := ⟨_, List.getElem?_eq_getElem (by rw [← hsm.1]; exact (List.getElem?_eq_some_iff.1 hx).1)⟩
      obtain ⟨x', hx', -, -, e3, -⟩ := hsm.2 i y hy
      rw [hx] at hx'
      injection hx' with hx'
      subst hx'
      obtain ⟨g, hg, hk⟩ := hlk i y hy
      exact ⟨g, List.mem_of_getElem? hg, by rw [hk.pins, ← e3]; exact hxp⟩
end
end Mun
end

section
/- A pool over a device with a fuse does what it would do without one, or dies; and what it leaves then. No program. -/
set_option maxRecDepth 100000
set_option linter.unusedVariables false
set_option linter.unusedSimpArgs false
namespace Mun
open Go Go.RowKit
open Go.Proofs

def DM.unf (m : DM) : DM := { m with fuse := -1 }
/-- on a device: as without a fuse, or dead -/
def SimD (m : DM) (t : Option (Nat × Bytes)) (r r' : DM × Int) : Prop :=
  (r.1.dead = false ∧ r.1.unf = r'.1 ∧ r.2 = r'.2 ∧ (m.fuse = -1 → r.1.fuse = -1)) ∨
  (m.fuse ≠ -1 ∧ r.1.dead = true ∧ r.2 = 9 ∧ r.1.base = m.base ∧ r.1.waiting = m.waiting ∧ r.1.torn = t)

theorem spend_unf {m : DM} (h : m.fuse ≠ 0) : m.spend = { m with ops := m.ops + 1, fuse := m.spend.fuse } ∧ (m.fuse = -1 → m.spend.fuse = -1) := by
  unfold DM.spend
  rw [if_neg h]
  refine ⟨rfl, fun e => ?_⟩
  show (if 0 < m.fuse then m.fuse - 1 else m.fuse) = -1
  rw [if_neg (by omega)]
  exact e
theorem spend_dies {m : DM} (h : m.fuse = 0) : m.spend = { m with dead := true } := by unfold DM.spend; rw [if_pos h]
theorem force_sim {m : DM} (hd : m.dead = false) : SimD m m.torn m.force m.unf.force := by
  rw [force_live (m := m.unf) hd rfl]
  unfold DM.force
  rw [if_neg (by rw [hd]; simp)]
  by_cases h : m.fuse = 0
  · rw [if_pos h, spend_dies h]
    exact .inr ⟨by omega, rfl, rfl, rfl, rfl, rfl⟩
  · rw [if_neg h]
    obtain ⟨e, e2⟩ := spend_unf h
    refine .inl ⟨?_, ?_, rfl, fun e1 => ?_⟩
    · show m.spend.dead = false; rw [e]; exact hd
    · rw [e]; rfl
    · exact e2 e1
theorem write_sim {m : DM} (hd : m.dead = false) (n : Nat) (hn : n < m.base.length) (b : Bytes) (hb : b.length = 512) : SimD m (some (n, b)) (m.write n b) (m.unf.write n b) := by
  rw [write_live (m := m.unf) hd rfl n hn b hb]
  unfold DM.write
  rw [if_neg (by rw [hd]; simp), if_neg (by simp [hb]; omega)]
  by_cases h : m.fuse = 0
  · rw [if_pos h, spend_dies h, Int.toNat_natCast]
    exact .inr ⟨by omega, rfl, rfl, rfl, rfl, rfl⟩
  · rw [if_neg h, Int.toNat_natCast]
    obtain ⟨e, e2⟩ := spend_unf h
    refine .inl ⟨?_, ?_, rfl, fun e1 => ?_⟩
    · show m.spend.dead = false; rw [e]; exact hd
    · rw [e]; rfl
    · exact e2 e1
theorem sync_sim {m : DM} (hd : m.dead = false) : SimD m m.torn m.sync m.unf.sync := by
  rw [sync_live (m := m.unf) hd rfl]
  unfold DM.sync
  rw [if_neg (by rw [hd]; simp)]
  by_cases h : m.fuse = 0
  · rw [if_pos h, spend_dies h]
    exact .inr ⟨by omega, rfl, rfl, rfl, rfl, rfl⟩
  · rw [if_neg h]
    obtain ⟨e, e2⟩ := spend_unf h
    refine .inl ⟨?_, ?_, rfl, fun e1 => ?_⟩
    · show m.spend.dead = false; rw [e]; exact hd
    · rw [e]; rfl
    · exact e2 e1
theorem append_sim {m : DM} (hd : m.dead = false) (b : Bytes) : SimD m m.torn (m.append b) (m.unf.append b) := by
  rw [append_live (m := m.unf) hd rfl]
  unfold DM.append
  rw [if_neg (by rw [hd]; simp)]
  by_cases hr : m.room < m.log.length + b.length
  · rw [if_pos hr, if_pos (show m.unf.room < m.unf.log.length + b.length from hr)]
    exact .inl ⟨hd, rfl, rfl, fun e => e⟩
  · rw [if_neg hr, if_neg (show ¬ m.unf.room < m.unf.log.length + b.length from hr)]
    by_cases h : m.fuse = 0
    · rw [if_pos h, spend_dies h]
      exact .inr ⟨by omega, rfl, rfl, rfl, rfl, rfl⟩
    · rw [if_neg h]
      obtain ⟨e, e2⟩ := spend_unf h
      refine .inl ⟨?_, ?_, rfl, fun e1 => ?_⟩
      · show m.spend.dead = false; rw [e]; exact hd
      · rw [e]; rfl
      · exact e2 e1

def PX.unf (s : PX) : PX := { s with dm := s.dm.unf }
/-- what a pool is over a device that has died -/
structure Hurt (s s' : PX) : Prop where
  dead : s'.dm.dead = true
  base : s'.dm.base = s.dm.base
  wait : ∀ q ∈ s'.dm.waiting, q ∈ s.dm.waiting ∨ dlook s.pm.dt (q.1 : Int) ≠ none
  torn : ∀ q, s'.dm.torn = some q → s.dm.torn = some q ∨ dlook s.pm.dt (q.1 : Int) ≠ none
  frl : s'.pm.fr.length = s.pm.fr.length
  fr : ∀ f' ∈ s'.pm.fr, ∃ f ∈ s.pm.fr, f'.pg = f.pg ∧ f'.b = f.b ∧ f'.pins = f.pins ∧ (f'.chg = true → f.chg = true)
  ops : s'.dm.ops ≤ s.dm.ops + 2 * s.dm.base.length + 2
  dts : DtS s.pm.dt → DtS s'.pm.dt
def SimP (s : PX) (r r' : PX × Int) : Prop :=
  (r.1.dm.dead = false ∧ r.1.unf = r'.1 ∧ r.2 = r'.2 ∧ (s.dm.fuse = -1 → r.1.dm.fuse = -1)) ∨ (s.dm.fuse ≠ -1 ∧ Hurt s r.1 ∧ r.2 = 9)

theorem SimP.refl {s : PX} (hd : s.dm.dead = false) (k : Int) : SimP s (s, k) (s.unf, k) := .inl ⟨hd, rfl, rfl, fun e => e⟩

section
variable {n : Nat} {s : PX} {last : List Bytes}
theorem fr_self (fr : List FM) : ∀ f' ∈ fr, ∃ f ∈ fr, f'.pg = f.pg ∧ f'.b = f.b ∧ f'.pins = f.pins ∧ (f'.chg = true → f.chg = true) := fun f hf => ⟨f, hf, rfl, rfl, rfl, id⟩

theorem forceP_sim (hd : s.dm.dead = false) (l : Nat) : SimP s (s.force l) (s.unf.force l) := by
  unfold PX.force
  by_cases hl : l < s.lm.base + s.lm.forced
  · rw [if_pos hl, if_pos (show l < s.unf.lm.base + s.unf.lm.forced from hl)]
    exact SimP.refl hd 0
  · rw [if_neg hl, if_neg (show ¬ l < s.unf.lm.base + s.unf.lm.forced from hl)]
    rcases force_sim hd with ⟨a1, a2, a3, a4⟩ | ⟨a1, a2, a3, a4, a5, a6⟩
    · refine .inl ⟨a1, ?_, a3, a4⟩
      show ({ s with dm := s.dm.force.1.unf, lm := if s.dm.force.2 = 0 then s.lm.done else s.lm } : PX) = _
      rw [a2, a3]
      rfl
    · refine .inr ⟨a1, ⟨a2, a4, fun q hq => .inl (by rw [← a5]; exact hq), fun q hq => .inl (by rw [← a6]; exact hq), rfl, fr_self _, ?_, id⟩, a3⟩
      show s.dm.force.1.ops ≤ _
      have := pforce_ops0 s
      omega
where
  pforce_ops0 (s : PX) : s.dm.force.1.ops ≤ s.dm.ops + 1 := by
    unfold DM.force
    split
    · exact Nat.le_succ _
    · split
      · unfold DM.spend; split <;> simp
      · show s.dm.spend.ops ≤ _
        unfold DM.spend; split <;> simp

theorem outP_sim (h : TI n s.unf last) (i : Nat) : SimP s (s.out i) (s.unf.out i) := by
  have hd : s.dm.dead = false := h.alive
  have hops := out_ops s i
  cases hf : s.pm.fr[i]? with
  | none =>
    have e1 : s.out i = (s, 0) := by unfold PX.out; rw [hf]
    have e2 : s.unf.out i = (s.unf, 0) := by unfold PX.out; rw [show s.unf.pm.fr[i]? = none from hf]
    rw [e1, e2]
    exact SimP.refl hd 0
  | some f =>
    have hfu : s.unf.pm.fr[i]? = some f := hf
    by_cases hc : f.pg < 0 ∨ f.chg = false
    · have e1 : s.out i = (s, 0) := by unfold PX.out; rw [hf]; simp only; rw [if_pos hc]
      have e2 : s.unf.out i = (s.unf, 0) := by unfold PX.out; rw [hfu]; simp only; rw [if_pos hc]
      rw [e1, e2]
      exact SimP.refl hd 0
    · obtain ⟨hq0, hq1⟩ := not_or.1 hc
      have hcg : f.chg = true := by cases hc2 : f.chg; exact absurd hc2 hq1; rfl
      have hm := List.mem_of_getElem? hf
      obtain ⟨h0, hgd, hls, r, hdl⟩ := h.chg f hm hcg
      have hpn := h.pg f hm
      obtain ⟨q, hqe⟩ : ∃ q : Nat, f.pg = (q : Int) := ⟨f.pg.toNat, by omega⟩
      obtain ⟨k0, hI, hpm, -⟩ := h.force (gt f.b 4 8)
      have hbsf := pforce_base s (gt f.b 4 8)
      have hpmf : (s.force (gt f.b 4 8)).1.pm = s.pm := by unfold PX.force; split <;> rfl
      unfold PX.out at hops ⊢
      rw [hf] at hops ⊢
      rw [hfu]
      simp only at hops ⊢
      rw [if_neg hc] at hops
      rw [if_neg hc, if_neg hc, if_neg (show ¬ (s.unf.force (gt f.b 4 8)).2 ≠ 0 by rw [k0]; simp)]
      rcases forceP_sim hd (gt f.b 4 8) with ⟨a1, a2, a3, a4⟩ | ⟨a1, a2, a3⟩
      · rw [if_neg (by rw [a3, k0]; simp)] at hops ⊢
        obtain ⟨s1, hs1⟩ : ∃ s1, (s.force (gt f.b 4 8)).1 = s1 := ⟨_, rfl⟩
        rw [hs1] at a1 a2 a4 hbsf hpmf hops ⊢
        rw [← a2] at hI ⊢
        have hqn : q < s1.dm.base.length := by have := hI.base; have e : s1.unf.dm.base = s1.dm.base := rfl; rw [e] at this; omega
        have hws := write_sim a1 q hqn f.b hgd.len
        rw [hqe] at hops ⊢
        have hwl := write_live (m := s1.unf.dm) hI.alive rfl q hqn f.b hgd.len
        rw [hwl, if_neg (show ¬ (({ s1.unf.dm with ops := s1.unf.dm.ops + 1, waiting := s1.unf.dm.waiting ++ [(q, f.b)] }, (0 : Int)) : DM × Int).2 ≠ 0 by simp)]
        have hwl' := write_live (m := s1.dm.unf) a1 rfl q hqn f.b hgd.len
        rw [hwl'] at hws
        rcases hws with ⟨b1, b2, b3, b4⟩ | ⟨b1, b2, b3, b4, b5, b6⟩
        · rw [if_neg (by rw [b3]; simp)]
          refine .inl ⟨b1, ?_, rfl, fun e => b4 (a4 e)⟩
          show ({ s1 with dm := (s1.dm.write (q : Int) f.b).1.unf, pm := _ } : PX) = _
          rw [b2]
          rfl
        · have hne : (s1.dm.write (q : Int) f.b).2 ≠ 0 := by rw [b3]; decide
          rw [if_pos hne] at hops ⊢
          have hsw : s1.dm.waiting = s.dm.waiting := by
            rw [← hs1]
            unfold PX.force
            split
            · rfl
            · show s.dm.force.1.waiting = _
              unfold DM.force
              split
              · rfl
              · split
                · unfold DM.spend; split <;> rfl
                · show s.dm.spend.waiting = _; unfold DM.spend; split <;> rfl
          have hf1 : s1.dm.fuse = 0 := by
            by_cases hz : s1.dm.fuse = 0
            · exact hz
            · exfalso
              rcases write_sim a1 q hqn f.b hgd.len with ⟨c1, -⟩ | ⟨-, c1, -⟩
              · rw [b2] at c1; cases c1
              · have : (s1.dm.write (q : Int) f.b).1.dead = s1.dm.dead := by
                  unfold DM.write
                  rw [if_neg (by rw [a1]; simp), if_neg (by simp [hgd.len]; omega), if_neg hz]
                  show s1.dm.spend.dead = _
                  rw [(spend_unf hz).1]
                rw [this, a1] at c1; cases c1
          refine .inr ⟨fun e => b1 (a4 e), ⟨b2, b4.trans hbsf, fun p hp => .inl (by rw [← hsw, ← b5]; exact hp), fun p hp => .inr ?_, by rw [hpmf], by rw [hpmf]; exact fr_self _, ?_, fun hs => by rw [hpmf]; exact hs⟩, b3⟩
          · have hp' : (s1.dm.write (q : Int) f.b).1.torn = some p := hp
            rw [b6] at hp'
            injection hp' with hp'
            rw [← hp', ← hqe]
            have hdl' : dlook s.pm.dt f.pg = some (r, true) := hdl
            show dlook s.pm.dt f.pg ≠ none
            rw [hdl']
            simp
          · have := hops
            omega
      · rw [if_pos (by rw [a3]; decide)] at hops ⊢
        exact .inr ⟨a1, a2, a3⟩

theorem wrP_sim (h : TI n s.unf last) (k : Int) : SimP s (s.wr k) (s.unf.wr k) := by
  unfold PX.wr
  by_cases hk : k < 0
  · rw [if_pos hk, if_pos hk]
    exact SimP.refl (s := s) h.alive 18
  · rw [if_neg hk, if_neg hk]
    have e : s.unf.pm.find k = s.pm.find k := rfl
    rw [e]
    cases hf : s.pm.find k with
    | none => exact SimP.refl (s := s) h.alive 18
    | some i => exact outP_sim h i

/-- one step behind another -/
theorem Hurt.after {s s1 s' : PX} (h : Hurt s1 s') (hb : s1.dm.base = s.dm.base) (hw : ∀ q ∈ s1.dm.waiting, q ∈ s.dm.waiting ∨ dlook s.pm.dt (q.1 : Int) ≠ none) (ht : s1.dm.torn = none) (hdt : ∀ k : Int, dlook s1.pm.dt k ≠ none → dlook s.pm.dt k ≠ none)
    (hfl : s1.pm.fr.length = s.pm.fr.length) (hfr : ∀ f' ∈ s1.pm.fr, ∃ f ∈ s.pm.fr, f'.pg = f.pg ∧ f'.b = f.b ∧ f'.pins = f.pins ∧ (f'.chg = true → f.chg = true)) (hops : s'.dm.ops ≤ s.dm.ops + 2 * s.dm.base.length + 2) (hds : DtS s.pm.dt → DtS s1.pm.dt) : Hurt s s' := by
  refine ⟨h.dead, h.base.trans hb, fun q hq => ?_, fun q hq => ?_, h.frl.trans hfl, fun f' hf' => ?_, hops, fun hs => h.dts (hds hs)⟩
  · rcases h.wait q hq with h1 | h1
    · exact hw q h1
    · exact .inr (hdt _ h1)
  · rcases h.torn q hq with h1 | h1
    · rw [ht] at h1; cases h1
    · exact .inr (hdt _ h1)
  · obtain ⟨f1, hf1, a1, a2, a3, a4⟩ := h.fr f' hf'
    obtain ⟨f, hf, b1, b2, b3, b4⟩ := hfr f1 hf1
    exact ⟨f, hf, a1.trans b1, a2.trans b2, a3.trans b3, fun e => b4 (a4 e)⟩
/-- what out leaves, if nothing dies -/
theorem out_leaves (h : TI n s.unf last) (i : Nat) (hd : (s.out i).1.dm.dead = false) : (s.out i).1.dm.base = s.dm.base ∧ (∀ q ∈ (s.out i).1.dm.waiting, q ∈ s.dm.waiting ∨ dlook s.pm.dt (q.1 : Int) ≠ none) ∧
    (∀ k : Int, dlook (s.out i).1.pm.dt k ≠ none → dlook s.pm.dt k ≠ none) ∧ ∀ f' ∈ (s.out i).1.pm.fr, ∃ f ∈ s.pm.fr, f'.pg = f.pg ∧ f'.b = f.b ∧ f'.pins = f.pins ∧ (f'.chg = true → f.chg = true) := by
  refine ⟨out_base s i, ?_⟩
  rcases outP_sim h i with ⟨a1, a2, a3, -⟩ | ⟨-, a2, -⟩
  · have hw : (s.out i).1.dm.waiting = (s.unf.out i).1.dm.waiting := by rw [← a2]; rfl
    have hp : (s.out i).1.pm = (s.unf.out i).1.pm := by rw [← a2]; rfl
    rw [hw, hp]
    unfold PX.out
    cases hf : s.pm.fr[i]? with
    | none =>
      rw [show s.unf.pm.fr[i]? = none from hf]
      exact ⟨fun q hq => .inl hq, fun k hk => hk, fr_self _⟩
    | some f =>
      rw [show s.unf.pm.fr[i]? = some f from hf]
      simp only
      by_cases hc : f.pg < 0 ∨ f.chg = false
      · rw [if_pos hc]
        exact ⟨fun q hq => .inl hq, fun k hk => hk, fr_self _⟩
      · obtain ⟨hq0, hq1⟩ := not_or.1 hc
        have hcg : f.chg = true := by cases hc2 : f.chg; exact absurd hc2 hq1; rfl
        have hm := List.mem_of_getElem? hf
        obtain ⟨h0, hgd, hls, r, hdl⟩ := h.chg f hm hcg
        have hdl' : dlook s.pm.dt f.pg = some (r, true) := hdl
        have hpn := h.pg f hm
        obtain ⟨q, hqe⟩ : ∃ q : Nat, f.pg = (q : Int) := ⟨f.pg.toNat, by omega⟩
        obtain ⟨k0, hI, hpm, -⟩ := h.force (gt f.b 4 8)
        have hfw : (s.unf.force (gt f.b 4 8)).1.dm.waiting = s.dm.waiting := by
          unfold PX.force
          split
          · rfl
          · rw [force_live (m := s.unf.dm) h.alive rfl]; rfl
        rw [if_neg hc, if_neg (show ¬ (s.unf.force (gt f.b 4 8)).2 ≠ 0 by rw [k0]; simp)]
        obtain ⟨s1, hs1⟩ : ∃ s1, (s.unf.force (gt f.b 4 8)).1 = s1 := ⟨_, rfl⟩
        rw [hs1] at hI hfw ⊢
        rw [hqe, write_live hI.alive hI.fuse q (by rw [hI.base]; omega) f.b hgd.len]
        simp only [ne_eq, not_true_eq_false, if_false]
        refine ⟨fun p hp => ?_, fun k hk => ?_, fun f' hf' => ?_⟩
        · rcases List.mem_append.1 hp with hp | hp
          · exact .inl (by rw [← hfw]; exact hp)
          · rw [List.mem_singleton] at hp
            right
            rw [hp, ← hqe, hdl']
            simp
        · have hk' : dlook (dset s.pm.dt (q : Int) _) k ≠ none := hk
          rw [dlook_dset] at hk'
          by_cases hkq : k = (q : Int)
          · rw [hkq, ← hqe, hdl']; simp
          · rw [if_neg hkq] at hk'; exact hk'
        · rcases List.mem_or_eq_of_mem_set (show f' ∈ s.pm.fr.set i f.clean from hf') with h9 | h9
          · exact ⟨f', h9, rfl, rfl, rfl, id⟩
          · rw [h9]
            exact ⟨f, hm, rfl, rfl, rfl, fun e => by cases e⟩
  · rw [a2.dead] at hd; cases hd

theorem torn_live {s : PX} (hw : s.dm.Wf) (hd : s.dm.dead = false) : s.dm.torn = none := (hw.alive hd).2

theorem out_torn (s : PX) (i : Nat) (hd : (s.out i).1.dm.dead = false) (ht : s.dm.torn = none) (h : TI n s.unf last) : (s.out i).1.dm.torn = none := by
  rcases outP_sim h i with ⟨a1, a2, a3, -⟩ | ⟨-, a2, -⟩
  · have e : (s.out i).1.dm.torn = (s.unf.out i).1.dm.torn := by rw [← a2]; rfl
    rw [e]
    have hft : ∀ l, (s.unf.force l).1.dm.torn = none := fun l => by
      unfold PX.force
      split
      · exact ht
      · rw [force_live (m := s.unf.dm) h.alive rfl]; exact ht
    unfold PX.out
    cases hf : s.pm.fr[i]? with
    | none => rw [show s.unf.pm.fr[i]? = none from hf]; exact ht
    | some f =>
      rw [show s.unf.pm.fr[i]? = some f from hf]
      simp only
      by_cases hc : f.pg < 0 ∨ f.chg = false
      · rw [if_pos hc]; exact ht
      · obtain ⟨hq0, hq1⟩ := not_or.1 hc
        have hcg : f.chg = true := by cases hc2 : f.chg; exact absurd hc2 hq1; rfl
        have hm := List.mem_of_getElem? hf
        obtain ⟨h0, hgd, hls, r, hdl⟩ := h.chg f hm hcg
        have hpn := h.pg f hm
        obtain ⟨q, hqe⟩ : ∃ q : Nat, f.pg = (q : Int) := ⟨f.pg.toNat, by omega⟩
        obtain ⟨k0, hI, hpm, -⟩ := h.force (gt f.b 4 8)
        have hft' := hft (gt f.b 4 8)
        rw [if_neg hc, if_neg (show ¬ (s.unf.force (gt f.b 4 8)).2 ≠ 0 by rw [k0]; simp)]
        obtain ⟨s1, hs1⟩ : ∃ s1, (s.unf.force (gt f.b 4 8)).1 = s1 := ⟨_, rfl⟩
        rw [hs1] at hI hft' ⊢
        rw [hqe, write_live hI.alive hI.fuse q (by rw [hI.base]; omega) f.b hgd.len]
        simp only [ne_eq, not_true_eq_false, if_false]
        exact hft'
  · rw [a2.dead] at hd; cases hd

/-- between two steps, all alive -/
structure Mid (s s1 : PX) : Prop where
  base : s1.dm.base = s.dm.base
  wait : ∀ q ∈ s1.dm.waiting, q ∈ s.dm.waiting ∨ dlook s.pm.dt (q.1 : Int) ≠ none
  torn : s1.dm.torn = none
  dt : ∀ k : Int, dlook s1.pm.dt k ≠ none → dlook s.pm.dt k ≠ none
  frl : s1.pm.fr.length = s.pm.fr.length
  fr : ∀ f' ∈ s1.pm.fr, ∃ f ∈ s.pm.fr, f'.pg = f.pg ∧ f'.b = f.b ∧ f'.pins = f.pins ∧ (f'.chg = true → f.chg = true)
  dts : DtS s.pm.dt → DtS s1.pm.dt
theorem Mid.refl {s : PX} (ht : s.dm.torn = none) : Mid s s := ⟨rfl, fun q hq => .inl hq, ht, fun _ h => h, rfl, fr_self _, id⟩
theorem out_dts (s : PX) (i : Nat) (h : DtS s.pm.dt) : DtS (s.out i).1.pm.dt := by
  have hpmf : ∀ l, (s.force l).1.pm = s.pm := fun l => by unfold PX.force; split <;> rfl
  unfold PX.out
  split
  · exact h
  · split
    · exact h
    · split
      · rw [hpmf]; exact h
      · split
        · show DtS (s.force _).1.pm.dt
          rw [hpmf]; exact h
        · exact h.dset _ _
theorem Mid.hurt {s s1 s' : PX} (h : Mid s s1) (hh : Hurt s1 s') (hops : s'.dm.ops ≤ s.dm.ops + 2 * s.dm.base.length + 2) : Hurt s s' := hh.after h.base h.wait h.torn h.dt h.frl h.fr hops h.dts
theorem Mid.out {s s1 : PX} (h : Mid s s1) (ht : TI n s1.unf last) (i : Nat) (hd : (s1.out i).1.dm.dead = false) : Mid s (s1.out i).1 := by
  obtain ⟨a1, a2, a3, a4⟩ := out_leaves ht i hd
  refine ⟨a1.trans h.base, fun q hq => ?_, out_torn s1 i hd h.torn ht, fun k hk => h.dt k (a3 k hk), (out_len s1 i).trans h.frl, fun f' hf' => ?_, fun hs => out_dts s1 i (h.dts hs)⟩
  · rcases a2 q hq with h1 | h1
    · exact h.wait q h1
    · exact .inr (h.dt _ h1)
  · obtain ⟨f1, hf1, b1, b2, b3, b4⟩ := a4 f' hf'
    obtain ⟨f, hf, c1, c2, c3, c4⟩ := h.fr f1 hf1
    exact ⟨f, hf, b1.trans c1, b2.trans c2, b3.trans c3, fun e => c4 (b4 e)⟩
theorem Mid.wr {s s1 : PX} (h : Mid s s1) (ht : TI n s1.unf last) (k : Int) (hd : (s1.wr k).1.dm.dead = false) : Mid s (s1.wr k).1 := by
  unfold PX.wr at hd ⊢
  split
  · exact h
  · cases hf : s1.pm.find k with
    | none => exact h
    | some i =>
      rw [hf] at hd
      rename_i hk
      rw [if_neg hk] at hd
      exact h.out ht i hd
theorem outs_sim : ∀ (l : List Int) {s1 : PX}, TI n s1.unf last → (∀ k ∈ l, 0 ≤ k ∧ ∃ f ∈ s1.pm.fr, f.pg = k) → Mid s s1 → s1.dm.ops + 2 * l.length ≤ s.dm.ops + 2 * s.dm.base.length →
    ((s1.outs l).1.dm.dead = false ∧ (s1.outs l).1.unf = (s1.unf.outs l).1 ∧ (s1.outs l).2 = (s1.unf.outs l).2 ∧ (s1.dm.fuse = -1 → (s1.outs l).1.dm.fuse = -1)) ∨ (s1.dm.fuse ≠ -1 ∧ Hurt s (s1.outs l).1 ∧ (s1.outs l).2 = 9)
  | [], s1, h, _, hm, _ => .inl ⟨h.alive, rfl, rfl, fun e => e⟩
  | k :: l, s1, h, hl, hm, ho => by
    obtain ⟨h1, h2, h3, h4⟩ := h.wr k
    have h5 := h4 (hl k (List.mem_cons_self ..)).1 (hl k (List.mem_cons_self ..)).2
    have hwo := wr_ops s1 k
    have hlen : (k :: l).length = l.length + 1 := rfl
    unfold PX.outs
    rw [if_neg (show ¬ (s1.unf.wr k).2 ≠ 0 by rw [h5]; simp)]
    rcases wrP_sim h k with ⟨a1, a2, a3, a4⟩ | ⟨a1, a2, a3⟩
    · rw [if_neg (by rw [a3, h5]; simp), ← a2]
      rw [← a2] at h1 h3
      rcases outs_sim l (s1 := (s1.wr k).1) h1 (fun k' hk' => by
        obtain ⟨b1, f, hf, b2⟩ := hl k' (List.mem_cons_of_mem _ hk')
        have h6 : k' ∈ (s1.wr k).1.unf.pm.fr.map (·.pg) := by rw [h3, ← b2]; exact List.mem_map_of_mem hf
        obtain ⟨f', hf', b3⟩ := List.mem_map.1 h6
        exact ⟨b1, f', hf', b3⟩) (hm.wr h k a1) (by omega) with ⟨c1, c2, c3, c4⟩ | ⟨c1, c2, c3⟩
      · exact .inl ⟨c1, c2, c3, fun e => c4 (a4 e)⟩
      · exact .inr ⟨fun e => c1 (a4 e), c2, c3⟩
    · rw [if_pos (by rw [a3]; decide)]
      exact .inr ⟨a1, hm.hurt a2 (by omega), a3⟩
theorem heldL_len (s : PX) : s.heldL.length ≤ s.dm.base.length := by
  unfold PX.heldL
  refine Nat.le_trans (List.length_filter_le _ _) ?_
  rw [List.length_map, List.length_range]
  exact Nat.le_refl _
theorem writeAll_sim (h : TI n s.unf last) (ht : s.dm.torn = none) : SimP s (s.outs s.heldL) (s.unf.outs s.unf.heldL) :=
  outs_sim s.heldL h (fun k hk => by
    have h1 := (heldL_mem s k).1 hk
    exact ⟨h1.1.1, h1.2⟩) (Mid.refl ht) (by have := heldL_len s; omega)

theorem syncP_sim (hd : s.dm.dead = false) : SimP s s.sync s.unf.sync := by
  unfold PX.sync
  have hl := sync_live (m := s.unf.dm) hd rfl
  have hs := sync_sim hd
  rw [hl, if_neg (show ¬ (({ s.unf.dm with ops := s.unf.dm.ops + 1, base := s.unf.dm.settled, waiting := [] }, (0 : Int)) : DM × Int).2 ≠ 0 by simp)]
  rw [show s.dm.unf = s.unf.dm from rfl, hl] at hs
  rcases hs with ⟨a1, a2, a3, a4⟩ | ⟨a1, a2, a3, a4, a5, a6⟩
  · rw [if_neg (by rw [a3]; simp)]
    refine .inl ⟨a1, ?_, rfl, a4⟩
    show ({ s with dm := s.dm.sync.1.unf, pm := _ } : PX) = _
    rw [a2]
    rfl
  · rw [if_pos (by rw [a3]; decide)]
    refine .inr ⟨a1, ⟨a2, a4, fun q hq => .inl (by rw [← a5]; exact hq), fun q hq => .inl (by rw [← a6]; exact hq), rfl, fr_self _, ?_, id⟩, a3⟩
    show s.dm.sync.1.ops ≤ _
    have : s.dm.sync.1.ops ≤ s.dm.ops + 1 := by
      unfold DM.sync
      split
      · exact Nat.le_succ _
      · split
        · unfold DM.spend; split <;> simp
        · show s.dm.spend.ops ≤ _
          unfold DM.spend; split <;> simp
    omega
theorem appP_sim (hd : s.dm.dead = false) : SimP s s.app s.unf.app := by
  unfold PX.app
  have hs := append_sim hd (recB r1 s.lm.fin)
  rw [show s.dm.unf = s.unf.dm from rfl] at hs
  rcases hs with ⟨a1, a2, a3, a4⟩ | ⟨a1, a2, a3, a4, a5, a6⟩
  · by_cases hk : (s.dm.append (recB r1 s.lm.fin)).2 ≠ 0
    · rw [if_pos hk, if_pos (show (s.unf.dm.append (recB r1 s.unf.lm.fin)).2 ≠ 0 from a3 ▸ hk)]
      refine .inl ⟨a1, ?_, a3, a4⟩
      show ({ s with dm := (s.dm.append (recB r1 s.lm.fin)).1.unf } : PX) = _
      rw [a2]
      rfl
    · rw [if_neg hk, if_neg (show ¬ (s.unf.dm.append (recB r1 s.unf.lm.fin)).2 ≠ 0 from a3 ▸ hk)]
      refine .inl ⟨a1, ?_, rfl, a4⟩
      show ({ s with dm := (s.dm.append (recB r1 s.lm.fin)).1.unf, lm := s.lm.push r1 } : PX) = _
      rw [a2]
      rfl
  · rw [if_pos (by rw [a3]; decide)]
    refine .inr ⟨a1, ⟨a2, a4, fun q hq => .inl (by rw [← a5]; exact hq), fun q hq => .inl (by rw [← a6]; exact hq), rfl, fr_self _, ?_, id⟩, a3⟩
    show (s.dm.append (recB r1 s.lm.fin)).1.ops ≤ _
    have : (s.dm.append (recB r1 s.lm.fin)).1.ops ≤ s.dm.ops + 1 := by
      unfold DM.append
      split
      · exact Nat.le_succ _
      · split
        · exact Nat.le_succ _
        · split
          · show s.dm.spend.ops ≤ _; unfold DM.spend; split <;> simp
          · show s.dm.spend.ops ≤ _
            unfold DM.spend; split <;> simp
    omega
theorem pin1_sim (h : TI n s.unf last) {i k : Nat} (hi : i < s.pm.fr.length) (hk : k < n) (hno : ∀ g ∈ s.pm.fr, g.pg ≠ (k : Int)) : SimP s (s.pin1 k i) (s.unf.pin1 k i) := by
  obtain ⟨k0, hI, -⟩ := h.outI i
  have hd := hI.alive
  have hck := hI.dchk k hk
  rcases outP_sim h i with ⟨a1, a2, a3, a4⟩ | ⟨a1, a2, a3⟩
  · rw [← a2] at hck hd
    have hck' : checkP ((s.out i).1.dm.page k) = 0 := hck
    have e1 : s.pin1 k i = ({ (s.out i).1 with pm := { (s.out i).1.pm with fr := (s.out i).1.pm.fr.set i ⟨(k : Int), (s.out i).1.dm.page k, 1, true, false⟩ } }, 0) := by
      unfold PX.pin1
      rw [if_neg (by rw [a3, k0]; simp), if_neg (by rw [a1]; simp), if_neg (by rw [hck']; simp)]
    have e2 : s.unf.pin1 k i = ({ (s.out i).1.unf with pm := { (s.out i).1.unf.pm with fr := (s.out i).1.unf.pm.fr.set i ⟨(k : Int), (s.out i).1.unf.dm.page k, 1, true, false⟩ } }, 0) := by
      unfold PX.pin1
      rw [if_neg (by rw [k0]; simp), ← a2, if_neg (by rw [hd]; simp), if_neg (by rw [hck]; simp)]
    rw [e1, e2]
    exact .inl ⟨a1, rfl, rfl, a4⟩
  · have e1 : s.pin1 k i = s.out i := by
      unfold PX.pin1
      rw [if_pos (by rw [a3]; decide)]
    rw [e1]
    exact .inr ⟨a1, a2, a3⟩
end
end Mun
end
