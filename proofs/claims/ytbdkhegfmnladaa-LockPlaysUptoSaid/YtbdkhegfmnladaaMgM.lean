/- Texts of mine, one behind the other: TbR, TbS, TbT, LkD, LkS. -/
import Derived.Test.YtbdkhegfmnladaaMgL
import Derived.Test.YtbdkhegfmnladaaMgA
import Derived.Deep.Fields
import Derived.Test.YtbdkhegfmnladaaMgG
section
/- reached: all owners that one waits for, in the end. -/
set_option maxRecDepth 100000
set_option linter.unusedVariables false
set_option linter.unusedSimpArgs false
namespace Mun
open Go Go.RowKit
open Go.Proofs

/-- one waits for another one, over others too -/
inductive AS.Reach (A : AS) : Int → Int → Prop
  | one {o u : Int} : A.blocks o u → A.Reach o u
  | step {o u v : Int} : A.blocks o u → A.Reach u v → A.Reach o v
theorem AS.Reach.snoc {A : AS} {o u v : Int} (h : A.Reach o u) (k : A.blocks u v) : A.Reach o v := by
  induction h with
  | one h => exact .step h (.one k)
  | step h _ ih => exact .step h (ih k)
theorem AS.Reach.trans {A : AS} {o u v : Int} (h : A.Reach o u) (k : A.Reach u v) : A.Reach o v := by
  induction h with
  | one h => exact .step h k
  | step h _ ih => exact .step h (ih k)

def metV (l : List Int) : UL := l.map fun u => (u, .agg #[])
theorem glook_metV (l : List Int) (u : Int) : glook (metV l) u = if u ∈ l then some (.agg #[]) else none := by
  induction l with
  | nil => simp [metV, glook]
  | cons a l ih =>
    unfold metV glook at ih ⊢
    rw [List.map_cons, List.find?_cons]
    by_cases e : a = u
    · subst e; simp
    · have : (a == u) = false := by simpa using e
      simp only [this]
      rw [ih]
      simp [Ne.symm e]
theorem gset_metV {l : List Int} {u : Int} (h : u ∉ l) : gset (metV l) u (.agg #[]) = metV (l ++ [u]) := by
  rw [gset_new _ _ _ (by simpa [metV, List.map_map, Function.comp_def] using h)]
  simp [metV]

/-- what visit may turn: the map of those met -/
structure VFr (M : Nat) (w w' : World) : Prop where
  os : w'.os = w.os
  tape : w'.tape = w.tape
  output : w'.output = w.output
  size : w.heap.size ≤ w'.heap.size
  block : ∀ k, k < w.heap.size → k ≠ M → w'.heap[k]? = w.heap[k]?
theorem VFr.refl (M : Nat) (w : World) : VFr M w w := ⟨rfl, rfl, rfl, Nat.le_refl _, fun _ _ _ => rfl⟩
theorem VFr.trans {M : Nat} {a b c : World} (h : VFr M a b) (k : VFr M b c) : VFr M a c :=
  ⟨k.os.trans h.os, k.tape.trans h.tape, k.output.trans h.output, Nat.le_trans h.size k.size, fun i hi hn => (k.block i (Nat.lt_of_lt_of_le hi h.size) hn).trans (h.block i hi hn)⟩
theorem VFr.of_below {M : Nat} {w w' : World} (h : Below w.heap.size w w') : VFr M w w' := ⟨h.os, h.tape, h.output, h.size, fun k hk _ => h.block k hk⟩
theorem VFr.obj {M : Nat} (w : World) (ob : Obj) : VFr M w (setObjW w M ob) := ⟨rfl, rfl, rfl, by rw [setObjW_size]; exact Nat.le_refl _, fun k _ hk => setObjW_other _ _ _ _ hk⟩

/-- ahead of a visit -/
structure VAt (w : World) (t : TV) (bt bm bv M : Nat) (L : List Int) : Prop where
  tab : TabR w t
  nf : ¬ tfoot t M
  ct : w.heap[bt]? = some (.cells #[.pointer (some ⟨t.T, 0, none⟩)] 25 (0, 0))
  cm : w.heap[bm]? = some (.cells #[.map (some M)] 90 (0, 0))
  cv : w.heap[bv]? = some (.cells #[.func (.func 58) #[] #[.pointer (some ⟨bt, 0, none⟩), .pointer (some ⟨bm, 0, none⟩), .pointer (some ⟨bv, 0, none⟩)]] 117 (0, 0))
  gm : GMap w M (metV L)
theorem VAt.fr {w w' : World} {t : TV} {bt bm bv M : Nat} {L L' : List Int} (h : VAt w t bt bm bv M L) (hf : VFr M w w') (hg : GMap w' M (metV L')) : VAt w' t bt bm bv M L' :=
  ⟨h.tab.keepF (fun k hk => hf.block k (h.tab.foot_lt hk) (fun e => h.nf (e ▸ hk))), h.nf, (hf.block _ (lt_of_block h.ct) (cells_ne_map h.gm h.ct)).trans h.ct, (hf.block _ (lt_of_block h.cm) (cells_ne_map h.gm h.cm)).trans h.cm, (hf.block _ (lt_of_block h.cv) (cells_ne_map h.gm h.cv)).trans h.cv, hg⟩
theorem VAt.below {w w' : World} {t : TV} {bt bm bv M : Nat} {L : List Int} (h : VAt w t bt bm bv M L) (hb : Below w.heap.size w w') : VAt w' t bt bm bv M L := h.fr (.of_below hb) (h.gm.keep (hb.block _ h.gm.lt))
theorem VAt.nodup {w : World} {t : TV} {bt bm bv M : Nat} {L : List Int} (h : VAt w t bt bm bv M L) : L.Nodup := by
  have h9 := gmap_nodup2 h.gm
  simpa [metV, List.map_map, Function.comp_def] using h9

/-- those of U that are not met yet -/
def left (U L : List Int) : Nat := (U.filter fun u => decide (u ∉ L)).length
theorem left_lt {U L L' : List Int} {u : Int} (hU : u ∈ U) (hu : u ∉ L) (hs : ∀ v ∈ L, v ∈ L') (hu' : u ∈ L') : left U L' < left U L := by
  unfold left
  refine filter_lt' _ _ U (fun x _ hx => ?_) ⟨u, hU, by simpa using hu, by simpa using hu'⟩
  simp only [decide_eq_true_eq] at hx ⊢
  exact fun h => hx (hs x h)

/-- what is known of those met: L ahead of the visit of o, L' behind so far, all of P among them -/
structure VKnow (A : AS) (o : Int) (L L' : List Int) (P : Int → Prop) : Prop where
  sub : ∀ v ∈ L, v ∈ L'
  all : ∀ u, P u → u ∈ L'
  cl : ∀ u ∈ L', u ∉ L → ∀ v, A.blocks u v → v ∈ L'
  re : ∀ u ∈ L', u ∉ L → A.Reach o u

theorem z86 (w : World) : (zeroValue 86).run Try.prog w = .ok (.agg #[]) w := by
  have h : ((Try.prog.info? 86).bind (·.zero)) = some (.agg #[]) := by kernel_rfl
  cases hq : Try.prog.info? 86 with
  | none => simp [hq] at h
  | some i =>
    simp [hq] at h
    simp [zeroValue, typeInfo, hq, h]

def VPost (w : World) (t : TV) (A : AS) (bt bm bv M : Nat) (L : List Int) (o : Int) (e : Ending) (w' : World) : Prop :=
  e = .returned (.tuple #[]) ∧ ∃ L', VFr M w w' ∧ VAt w' t bt bm bv M L' ∧ VKnow A o L L' (A.blocks o)

set_option maxHeartbeats 4000000 in
theorem visit_any {t : TV} {A : AS} (hr : RepA t A) (hok : A.Ok) {c : Nat} (hsz : SzOk t c) (hc : c ≤ 8796093022199) {U : List Int} (hU : ∀ o u, A.blocks o u → u ∈ U) {bt bm bv M : Nat} :
    ∀ (n : Nat) (w : World) (L : List Int) (o : Int), left U L < n → VAt w t bt bm bv M L → Calls Try.prog 58 #[.int .u64 o, .pointer (some ⟨bt, 0, none⟩), .pointer (some ⟨bm, 0, none⟩), .pointer (some ⟨bv, 0, none⟩)] w (VPost w t A bt bm bv M L o) := by
  intro n
  induction n with
  | zero => intro w L o h; omega
  | succ n ih =>
    intro w L o hlt hv
    have hbl := blockers_r hv.tab hr hok hsz hc o
    have c1 : w.cell? ⟨bt, 0, none⟩ = some (.pointer (some ⟨t.T, 0, none⟩)) := cell_of_row w bt 0 _ _ _ hv.ct
    have HBL := Lib.hid hbl
    have HV := Lib.hid (And.intro hv hlt)
    have HIH := Lib.hid ih
    have HU := Lib.hid hU
    clear hbl hv hlt ih hU hr hok hsz hc
    go_enter Try.func58, Try.ntmps58
    go_wp2_with fail
    refine HBL.out.mono ?_
    rintro e w1 ⟨v, l, rfl, hrow, hlen, hb1, hbs⟩
    obtain ⟨va, ln, vc, rfl, hln⟩ : ∃ va ln vc, v = .slice va ln vc ∧ l.length = ln := by
      obtain ⟨a, c, e, -⟩ := (RdV.of_own (F := NoF) hrow (fun _ _ => noF _)).form
      exact ⟨a, _, c, e, rfl⟩
    have hv1 := HV.out.1.below hb1
    have H1 := Lib.hid (And.intro hrow (And.intro hb1 (And.intro hbs (And.intro hln hv1))))
    have hln9 : (ln : Int) < 8796093022200 := by omega
    have hln0 : (0 : Int) ≤ (ln : Int) := by omega
    clear hrow hb1 hbs hln hv1 HBL hlen c1
    go_wp2_with fail
    go_loopw [13] (fun iv wr => ∃ (k : Nat) (Lk : List Int), iv = .int .i64 k ∧ k ≤ ln ∧ VFr M w1 wr ∧ VAt wr t bt bm bv M Lk ∧ VKnow A o L Lk (fun u => u ∈ (l.take k).map (·.1))) (fun iv _ => ln - (Go.RowKit.intOf iv).toNat)
    case atStart => exact ⟨0, L, rfl, Nat.zero_le _, VFr.refl _ _, H1.out.2.2.2.2, ⟨fun v hv => hv, fun u hu => by simp at hu, fun u h1 h2 => absurd h1 h2, fun u h1 h2 => absurd h1 h2⟩⟩
    case round =>
      obtain ⟨k, Lk, rfl, hkn, hf, hvk, hkn2⟩ := hrel
      by_cases hk : k < ln
      · have hkl : k < l.length := by rw [H1.out.2.2.2.1]; exact hk
        obtain ⟨u, hu⟩ : ∃ u, l[k].1 = u := ⟨_, rfl⟩
        obtain ⟨g, off, c', hvv, -, -, -, hgl, hcell⟩ := RdV.at_ (RdV.of_own (F := NoF) H1.out.1 (fun _ _ => noF _)) (by omega)
        injection hvv with e1 e2 e3
        subst e1
        have cg1 : w1.cell? ⟨g, off + k, none⟩ = some (.int .u64 u) := hcell k _ (by simp [ov, hkl, hu])
        have hgM : g ≠ M := by
          obtain ⟨-, cur, ty, fr, hb, -⟩ := cell_block cg1
          exact cells_ne_map H1.out.2.2.2.2.gm hb
        have cg : wr.cell? ⟨g, off + k, none⟩ = some (.int .u64 u) := by
          rw [World.cell?_of_block (hf.block g hgl hgM)]; exact cg1
        have cm : wr.cell? ⟨bm, 0, none⟩ = some (.map (some M)) := cell_of_row wr bm 0 _ _ _ hvk.cm
        have htk : (l.take (k + 1)).map (·.1) = (l.take k).map (·.1) ++ [u] := by rw [List.take_add_one, List.getElem?_eq_getElem hkl, List.map_append]; simp only [Option.toList_some, List.map_cons, List.map_nil, hu]
        have hbo : A.blocks o u := (H1.out.2.2.1 u).1 (by rw [← hu]; exact List.mem_map_of_mem (List.getElem_mem hkl))
        have hlk := gmap_lookup (P := Try.prog) Try.underlying90 Try.underlying29 (z86 wr) hvk.gm u
        rw [glook_metV] at hlk
        have hki : (k : Int) < (ln : Int) := by omega
        have hk0 : (0 : Int) ≤ (k : Int) := by omega
        have hk9 : (k : Int) < 8796093022200 := by omega
        obtain ⟨w2, hw2⟩ : ∃ w2, wr.alloc (.cells #[] 86) = w2 := ⟨_, rfl⟩
        have hb2 : Below wr.heap.size wr w2 := by rw [← hw2]; exact (Below.refl _ _).alloc (Nat.le_refl _) _
        have hv2 := hvk.below hb2
        by_cases hin : u ∈ Lk
        · rw [if_pos hin] at hlk
          change (Instr.lookup 90 (.map (some M)) (.int .u64 u) true).run Try.prog wr = .ok (.tuple #[.agg #[], .bool true]) wr at hlk
          have hfin : VFr M w1 w2 ∧ VAt w2 t bt bm bv M Lk ∧ VKnow A o L Lk (fun u => u ∈ (l.take (k + 1)).map (·.1)) := ⟨hf.trans (.of_below hb2), hv2, ⟨hkn2.sub, fun v hv => by
            rw [htk] at hv
            rcases List.mem_append.1 hv with h9 | h9
            · exact hkn2.all v h9
            · rw [List.mem_singleton] at h9; rw [h9]; exact hin, hkn2.cl, hkn2.re⟩⟩
          have HF := Lib.hid (And.intro hfin hk)
          clear hfin hkl hu hcell cg1 hgM htk hbo hb2 hv2 hf hvk hkn2 hkn hk hin hgl e2 e3
          go_wp2
          go_roundw
          case rel => exact ⟨k + 1, Lk, by go_num, HF.out.2, HF.out.1.1, HF.out.1.2.1, HF.out.1.2.2⟩
          case measure => have := HF.out.2; simp [Go.RowKit.intOf]; omega
        · rw [if_neg hin] at hlk
          change (Instr.lookup 90 (.map (some M)) (.int .u64 u) true).run Try.prog wr = .ok (.tuple #[.agg #[], .bool false]) wr at hlk
          have cm2 : w2.cell? ⟨bm, 0, none⟩ = some (.map (some M)) := cell_of_row w2 bm 0 _ _ _ hv2.cm
          obtain ⟨ob, huM, hgM2⟩ := gmap_update (P := Try.prog) Try.underlying90 Try.underlying29 hv2.gm u (.agg #[])
          change (Instr.mapUpdate 90 (.map (some M)) (.int .u64 u) (.agg #[])).run Try.prog w2 = _ at huM
          rw [gset_metV hin] at hgM2
          obtain ⟨w3, hw3⟩ : ∃ w3, setObjW w2 M ob = w3 := ⟨_, rfl⟩
          rw [hw3] at huM hgM2
          have hf3 : VFr M w2 w3 := by rw [← hw3]; exact VFr.obj w2 ob
          have hv3 : VAt w3 t bt bm bv M (Lk ++ [u]) := hv2.fr hf3 hgM2
          have hcv : w3.cell? ⟨bv, 0, none⟩ = some (.func (.func 58) #[] #[.pointer (some ⟨bt, 0, none⟩), .pointer (some ⟨bm, 0, none⟩), .pointer (some ⟨bv, 0, none⟩)]) := cell_of_row w3 bv 0 _ _ _ hv3.cv
          have hrec := HIH.out w3 (Lk ++ [u]) u (Nat.lt_of_lt_of_le (left_lt (L := L) (u := u) (HU.out o u hbo) (fun h9 => hin (hkn2.sub u h9)) (fun v hv => List.mem_append_left _ (hkn2.sub v hv)) (by simp)) (Nat.le_of_lt_succ HV.out.2)) hv3
          have HREC := Lib.hid hrec
          have HK := Lib.hid (And.intro (hf.trans ((VFr.of_below hb2).trans hf3)) (And.intro hkn2 (And.intro htk (And.intro hbo hk))))
          clear hrec hkl hu hcell cg1 hgM htk hbo hb2 hv2 hf hvk hkn2 hkn hk hin hgl e2 e3 hgM2 hw3 hf3 hv3
          go_wp2_with fail
          refine HREC.out.mono ?_
          rintro e w4 ⟨rfl, L4, hf4, hv4, hk4⟩
          have hfin : VFr M w1 w4 ∧ VAt w4 t bt bm bv M L4 ∧ VKnow A o L L4 (fun u => u ∈ (l.take (k + 1)).map (·.1)) := by
            have hkn2 := HK.out.2.1
            have huL : u ∈ L4 := hk4.sub u (by simp)
            have hLk : ∀ v ∈ Lk, v ∈ L4 := fun v hv => hk4.sub v (List.mem_append_left _ hv)
            refine ⟨HK.out.1.trans hf4, hv4, ⟨fun v hv => hLk v (hkn2.sub v hv), fun v hv => ?_, fun v hv hvL x hx => ?_, fun v hv hvL => ?_⟩⟩
            · rw [HK.out.2.2.1] at hv
              rcases List.mem_append.1 hv with h9 | h9
              · exact hLk v (hkn2.all v h9)
              · rw [List.mem_singleton] at h9; rw [h9]; exact huL
            · by_cases h1 : v ∈ Lk
              · exact hLk x (hkn2.cl v h1 hvL x hx)
              · by_cases h2 : v = u
                · subst h2; exact hk4.all x hx
                · exact hk4.cl v hv (by rw [List.mem_append, List.mem_singleton]; exact fun h9 => h9.elim h1 h2) x hx
            · by_cases h1 : v ∈ Lk
              · exact hkn2.re v h1 hvL
              · by_cases h2 : v = u
                · subst h2; exact .one HK.out.2.2.2.1
                · exact .step HK.out.2.2.2.1 (hk4.re v hv (by rw [List.mem_append, List.mem_singleton]; exact fun h9 => h9.elim h1 h2))
          have HF := Lib.hid (And.intro hfin HK.out.2.2.2.2)
          clear hfin hf4 hv4 hk4 HREC
          go_wp2
          go_roundw
          case rel => exact ⟨k + 1, L4, by go_num, HF.out.2, HF.out.1.1, HF.out.1.2.1, HF.out.1.2.2⟩
          case measure => have := HF.out.2; simp [Go.RowKit.intOf]; omega
      · obtain rfl : k = ln := by omega
        have hkd : decide (k < k) = false := by simp
        have htn : l.take k = l := List.take_of_length_le (by have := H1.out.2.2.2.1; omega)
        rw [htn] at hkn2
        have hpost : VPost w t A bt bm bv M L o (.returned (.tuple #[])) wr := ⟨rfl, Lk, (VFr.of_below H1.out.2.1).trans hf, hvk, ⟨hkn2.sub, fun u hu => hkn2.all u ((H1.out.2.2.1 u).2 hu), hkn2.cl, hkn2.re⟩⟩
        have HP := Lib.hid hpost
        clear hpost hf hvk hkn2 htn hk hkn
        go_wp2
        go_end0
        exact HP.out
end Mun
end

section
/- reached and Victim, whatever the table. -/
set_option maxRecDepth 100000
set_option linter.unusedVariables false
set_option linter.unusedSimpArgs false
namespace Mun
open Go Go.RowKit
open Go.Proofs

/-- all that hold or wait -/
def owners (t : TV) : List Int := t.pl.flatMap fun x => x.2.hs.map (·.1) ++ x.2.qs.map (·.1)
theorem blocks_owner {w : World} {t : TV} {A : AS} (h : TabR w t) (hr : RepA t A) : ∀ o u, A.blocks o u → u ∈ owners t := by
  rintro o u ⟨s, m, hq, hb⟩
  cases hk : klook t.pl s with
  | none => rw [(hr.pn s hk).2] at hq; cases hq
  | some x =>
    obtain ⟨h1, h2⟩ := hr.pl s x hk
    refine List.mem_flatMap.2 ⟨(s, x), klook_in hk, ?_⟩
    rcases hb with ⟨-, k, hk2, -⟩ | hb
    · rw [← h1] at hk2
      exact List.mem_append_left _ (List.mem_map.2 ⟨_, klook_in hk2, rfl⟩)
    · rw [← h2] at hb
      obtain ⟨a, ha, e⟩ := List.mem_map.1 hb
      exact List.mem_append_right _ (List.mem_map.2 ⟨a, (List.takeWhile_sublist _).mem ha, e⟩)

theorem know_reach {A : AS} {o : Int} {L : List Int} (h : VKnow A o [] L (A.blocks o)) (u : Int) : u ∈ L ↔ A.Reach o u := by
  constructor
  · exact fun hu => h.re u hu (by simp)
  · intro hr
    have key : ∀ a b, A.Reach a b → (∀ x, A.blocks a x → x ∈ L) → b ∈ L := by
      intro a b hab
      induction hab with
      | one h1 => exact fun hx => hx _ h1
      | step h1 _ ih => exact fun hx => ih (fun x hx2 => h.cl _ (hx _ h1) (by simp) x hx2)
    exact key o u hr h.all

def RePost (w : World) (A : AS) (o : Int) (e : Ending) (w' : World) : Prop := ∃ M L, e = .returned (.map (some M)) ∧ GMap w' M (metV L) ∧ (∀ u, u ∈ L ↔ A.Reach o u) ∧ w.heap.size ≤ M ∧ Below w.heap.size w w'

set_option maxHeartbeats 4000000 in
theorem reached_r {w : World} {t : TV} {A : AS} (h : TabR w t) (hr : RepA t A) (hok : A.Ok) {c : Nat} (hsz : SzOk t c) (hc : c ≤ 8796093022199) (o : Int) :
    Calls Try.prog 40 #[.pointer (some ⟨t.T, 0, none⟩), .int .u64 o] w (RePost w A o) := by
  have hU := blocks_owner h hr
  have hvis := fun (w' : World) (bt bm bv M : Nat) => visit_any (bt := bt) (bm := bm) (bv := bv) (M := M) hr hok hsz hc hU (left (owners t) [] + 1) w' [] o (by omega)
  obtain ⟨wE, hwE⟩ : ∃ wE, ((((w.alloc (.cells #[.pointer (some ⟨t.T, 0, none⟩)] 25)).alloc (.map #[] 0)).alloc (.cells #[.map (some (w.heap.size + 1))] 90)).alloc (.cells #[Value.nilFunc] 117)) = wE := ⟨_, rfl⟩
  have hbE : Below w.heap.size w wE := by rw [← hwE]; exact below_more (below_more (below_more (below_more (Below.refl _ _) _) _) _) _
  have s1 : (w.alloc (.cells #[.pointer (some ⟨t.T, 0, none⟩)] 25)).heap.size = w.heap.size + 1 := by rw [World.size_alloc]
  have s2 : ((w.alloc (.cells #[.pointer (some ⟨t.T, 0, none⟩)] 25)).alloc (.map #[] 0)).heap.size = w.heap.size + 1 + 1 := by rw [World.size_alloc, s1]
  have s3 : (((w.alloc (.cells #[.pointer (some ⟨t.T, 0, none⟩)] 25)).alloc (.map #[] 0)).alloc (.cells #[.map (some (w.heap.size + 1))] 90)).heap.size = w.heap.size + 1 + 1 + 1 := by rw [World.size_alloc, s2]
  have e0 : wE.heap[w.heap.size]? = some (.cells #[.pointer (some ⟨t.T, 0, none⟩)] 25 (0, 0)) := by
    rw [← hwE, heap_alloc_old _ _ (by rw [s3]; omega), heap_alloc_old _ _ (by rw [s2]; omega), heap_alloc_old _ _ (by rw [s1]; omega)]
    exact heap_alloc_new w _
  have e1 : GMap (α := Int) wE (w.heap.size + 1) (metV []) := by
    have h9 := gmap_new (α := Int) (w.alloc (.cells #[.pointer (some ⟨t.T, 0, none⟩)] 25))
    rw [s1] at h9
    refine h9.keep ?_
    rw [← hwE, heap_alloc_old _ _ (by rw [s3]; omega), heap_alloc_old _ _ (by rw [s2]; omega)]
  have e2 : wE.heap[w.heap.size + 1 + 1]? = some (.cells #[.map (some (w.heap.size + 1))] 90 (0, 0)) := by
    have h9 := heap_alloc_new ((w.alloc (.cells #[.pointer (some ⟨t.T, 0, none⟩)] 25)).alloc (.map #[] 0)) (.cells #[.map (some (w.heap.size + 1))] 90)
    rw [s2] at h9
    rw [← hwE, heap_alloc_old _ _ (by rw [s3]; omega)]
    exact h9
  have e3 : wE.heap[w.heap.size + 1 + 1 + 1]? = some (.cells #[Value.nilFunc] 117 (0, 0)) := by
    have h9 := heap_alloc_new (((w.alloc (.cells #[.pointer (some ⟨t.T, 0, none⟩)] 25)).alloc (.map #[] 0)).alloc (.cells #[.map (some (w.heap.size + 1))] 90)) (.cells #[Value.nilFunc] 117)
    rw [s3, hwE] at h9
    exact h9
  have c3 : wE.cell? ⟨w.heap.size + 1 + 1 + 1, 0, none⟩ = some Value.nilFunc := cell_of_row wE _ 0 _ _ _ e3
  have f3 : wE.frozen? ⟨w.heap.size + 1 + 1 + 1, 0, none⟩ = false := by simp [World.frozen?, e3]
  obtain ⟨wF, hwF⟩ : ∃ wF, wE.setCell ⟨w.heap.size + 1 + 1 + 1, 0, none⟩ (.func (.func 58) #[] #[.pointer (some ⟨w.heap.size, 0, none⟩), .pointer (some ⟨w.heap.size + 1 + 1, 0, none⟩), .pointer (some ⟨w.heap.size + 1 + 1 + 1, 0, none⟩)]) = wF := ⟨_, rfl⟩
  have hoth : ∀ k, k ≠ w.heap.size + 1 + 1 + 1 → wF.heap[k]? = wE.heap[k]? := fun k hk => by rw [← hwF]; exact setCell_heapL _ _ _ _ hk
  have hbF : Below w.heap.size w wF := ⟨by rw [← hbE.os, ← hwF]; unfold World.setCell; split <;> rfl, by rw [← hbE.tape, ← hwF]; unfold World.setCell; split <;> rfl, by rw [← hbE.output, ← hwF]; unfold World.setCell; split <;> rfl, by rw [← hwF, setCell_sizeL]; exact hbE.size, fun k hk => by rw [hoth k (by omega), hbE.block k hk]⟩
  have hvF : VAt wF t w.heap.size (w.heap.size + 1 + 1) (w.heap.size + 1 + 1 + 1) (w.heap.size + 1) [] := by
    refine ⟨h.keep hbF.block, h.nfoot_new (by omega), (hoth _ (by omega)).trans e0, (hoth _ (by omega)).trans e2, ?_, e1.keep (hoth _ (by omega))⟩
    have h9 := setCell_blkL (i := 0) e3 (.func (.func 58) #[] #[.pointer (some ⟨w.heap.size, 0, none⟩), .pointer (some ⟨w.heap.size + 1 + 1, 0, none⟩), .pointer (some ⟨w.heap.size + 1 + 1 + 1, 0, none⟩)])
    rw [hwF] at h9
    exact h9
  have cF : wF.cell? ⟨w.heap.size + 1 + 1 + 1, 0, none⟩ = some (.func (.func 58) #[] #[.pointer (some ⟨w.heap.size, 0, none⟩), .pointer (some ⟨w.heap.size + 1 + 1, 0, none⟩), .pointer (some ⟨w.heap.size + 1 + 1 + 1, 0, none⟩)]) := cell_of_row wF _ 0 _ _ _ hvF.cv
  have hst : (store ⟨w.heap.size + 1 + 1 + 1, 0, none⟩ (.func (.func 58) #[] #[.pointer (some ⟨w.heap.size, 0, none⟩), .pointer (some ⟨w.heap.size + 1 + 1, 0, none⟩), .pointer (some ⟨w.heap.size + 1 + 1 + 1, 0, none⟩)])).run Try.prog wE = .ok () wF := by
    rw [run_store Try.prog wE _ _ _ rfl, c3]
    simp [f3, hwF]
  have HVIS := Lib.hid (hvis wF _ _ _ _ hvF)
  have HF := Lib.hid hbF
  have hmm := run_makeMap (P := Try.prog) 90
  clear hvis hU hr hok hsz hc h hbE s1 s2 s3 e0 e1 e2 e3 hoth hbF hvF
  go_enter Try.func40, Try.ntmps40
  go_wp2_with fail
  refine HVIS.out.mono ?_
  rintro e w4 ⟨rfl, L', hf4, hv4, hk4⟩
  have cm : w4.cell? ⟨w.heap.size + 1 + 1, 0, none⟩ = some (.map (some (w.heap.size + 1))) := cell_of_row w4 _ 0 _ _ _ hv4.cm
  have hpost : RePost w A o (.returned (.map (some (w.heap.size + 1)))) w4 := ⟨_, L', rfl, hv4.gm, know_reach hk4, by omega, ⟨hf4.os.trans HF.out.os, hf4.tape.trans HF.out.tape, hf4.output.trans HF.out.output, Nat.le_trans HF.out.size hf4.size, fun k hk => (hf4.block k (Nat.lt_of_lt_of_le hk HF.out.size) (by omega)).trans (HF.out.block k hk)⟩⟩
  have HP := Lib.hid hpost
  clear hpost hf4 hv4 hk4 HVIS
  go_wp2
  go_ret
  exact HP.out
end Mun
end

section
/- Victim, whatever the table. -/
set_option maxRecDepth 100000
set_option linter.unusedVariables false
set_option linter.unusedSimpArgs false
namespace Mun
open Go Go.RowKit
open Go.Proofs

/-- the victim of a ring through one -/
def AS.Victim (A : AS) (o v : Int) (b : Bool) : Prop := (b = false ∧ v = 0 ∧ ¬ A.Reach o o) ∨ (b = true ∧ A.Reach o o ∧ A.Reach o v ∧ A.Reach v o ∧ ∀ u, A.Reach o u → A.Reach u o → u ≤ v)
theorem AS.Victim.uniq {A : AS} {o v v' : Int} {b b' : Bool} (h : A.Victim o v b) (h' : A.Victim o v' b') : v = v' ∧ b = b' := by
  rcases h with ⟨rfl, rfl, hn⟩ | ⟨rfl, hr, h1, h2, h3⟩ <;> rcases h' with ⟨rfl, rfl, hn'⟩ | ⟨rfl, hr', h1', h2', h3'⟩
  · exact ⟨rfl, rfl⟩
  · exact absurd hr' hn
  · exact absurd hr hn'
  · exact ⟨Int.le_antisymm (h3' v h1 h2) (h3 v' h1' h2'), rfl⟩

structure ViR (w1 : World) (r0 M : Nat) (l : List ((Int × Value) × Nat)) (c : Nat) (A : AS) (o : Int) (seen : Array Nat) (v : Int) (wr : World) : Prop where
  it : wr.heap[r0]? = some (.mapIter (some M) c seen c)
  bl : Below w1.heap.size w1 wr
  ge : o ≤ v
  ok : ∀ p ∈ l, seen.contains p.2 = true → A.Reach p.1.1 o → p.1.1 ≤ v
  on : v = o ∨ (A.Reach o v ∧ A.Reach v o)

theorem ViR.push {w1 wr W : World} {r0 M : Nat} {l : List ((Int × Value) × Nat)} {c : Nat} {A : AS} {o v v' : Int} {seen : Array Nat} (h : ViR w1 r0 M l c A o seen v wr) {p : (Int × Value) × Nat} (hn : (l.map (·.2)).Nodup) (hp : p ∈ l) (hvv : v ≤ v') (hpv : A.Reach p.1.1 o → p.1.1 ≤ v') (hon : v' = v ∨ (A.Reach o v' ∧ A.Reach v' o)) (hr0 : w1.heap.size ≤ r0)
    (hW : Below (setObjW wr r0 (.mapIter (some M) c (seen.push p.2) c)).heap.size (setObjW wr r0 (.mapIter (some M) c (seen.push p.2) c)) W) : ViR w1 r0 M l c A o (seen.push p.2) v' W := by
  have hsz := setObjW_size wr r0 (.mapIter (some M) c (seen.push p.2) c)
  have hlt := lt_of_block h.it
  have hk : ∀ k, k < wr.heap.size → k ≠ r0 → W.heap[k]? = wr.heap[k]? := fun k hk hne => (hW.block k (by rw [hsz]; exact hk)).trans (setObjW_other _ _ _ _ hne)
  refine ⟨(hW.block r0 (by rw [hsz]; exact hlt)).trans (setObjW_same h.it), ⟨hW.os.trans h.bl.os, hW.tape.trans h.bl.tape, hW.output.trans h.bl.output, by have := hW.size; have := h.bl.size; omega, fun k hk2 => (hk k (Nat.lt_of_lt_of_le hk2 h.bl.size) (by omega)).trans (h.bl.block k hk2)⟩, Int.le_trans h.ge hvv, fun q hq hs hr => ?_, ?_⟩
  · by_cases e : q.2 = p.2
    · have : q = p := nodup_inj2 hn hq hp e
      subst this
      exact hpv hr
    · refine Int.le_trans (h.ok q hq ?_ hr) hvv
      simp at hs ⊢
      rcases hs with h9 | h9
      · exact h9
      · exact absurd h9 e
  · rcases hon with e | e
    · rw [e]; exact h.on
    · exact .inr e

def ViPost (w : World) (A : AS) (o : Int) (e : Ending) (w' : World) : Prop := ∃ v b, e = .returned (.tuple #[.int .u64 v, .bool b]) ∧ Below w.heap.size w w' ∧ A.Victim o v b

set_option maxHeartbeats 4000000 in
theorem victim_r {w : World} {t : TV} {A : AS} (h : TabR w t) (hr : RepA t A) (hok : A.Ok) {c : Nat} (hsz : SzOk t c) (hc : c ≤ 8796093022199) (o : Int) :
    Calls Try.prog 22 #[.pointer (some ⟨t.T, 0, none⟩), .int .u64 o] w (ViPost w A o) := by
  have hre := fun (W : World) (hb : Below w.heap.size w W) (u : Int) => reached_r (h.keep hb.block) hr hok hsz hc u
  have HRE := Lib.hid hre
  have HRE1 := Lib.hid (hre w (Below.refl _ _) o)
  clear hre h hr hok hsz hc
  go_enter Try.func22, Try.ntmps22
  go_wp2_with fail
  refine HRE1.out.mono ?_
  rintro e w1 ⟨M, L, rfl, hgm, hL, hM, hb1⟩
  have hlk := gmap_lookup (P := Try.prog) Try.underlying90 Try.underlying29 (z86 w1) hgm o
  rw [glook_metV] at hlk
  by_cases hin : o ∈ L
  · rw [if_pos hin] at hlk
    change (Instr.lookup 90 (.map (some M)) (.int .u64 o) true).run Try.prog w1 = .ok (.tuple #[.agg #[], .bool true]) w1 at hlk
    have hoo := (hL o).1 hin
    obtain ⟨w2, hw2⟩ : ∃ w2, w1.alloc (.cells #[] 86) = w2 := ⟨_, rfl⟩
    have hb2 : Below w1.heap.size w1 w2 := by rw [← hw2]; exact (Below.refl _ _).alloc (Nat.le_refl _) _
    obtain ⟨l, cl, hl, hes⟩ := hgm
    have hl2 : GMapC w2 M l cl := hl.keep (hb2.block _ (lt_of_block hl.2.2.2))
    have hrg := gmap_range (P := Try.prog) Try.underlying90 hl2
    obtain ⟨r0, hr0⟩ : ∃ r0, w2.heap.size = r0 := ⟨_, rfl⟩
    obtain ⟨w3, hw3⟩ : ∃ w3, w2.alloc (.mapIter (some M) cl #[] cl) = w3 := ⟨_, rfl⟩
    have hst : ViR w1 r0 M l cl A o #[] o w3 := by
      rw [← hw3]
      exact ⟨by rw [← hr0]; exact heap_alloc_new w2 _, below_more hb2 _, Int.le_refl _, fun p _ hs => by simp at hs, .inl rfl⟩
    rw [hw3, hr0] at hrg
    have hmem : ∀ p ∈ l, p.1.1 ∈ L ∧ p.1.2 = .agg #[] := fun p hp => by
      have h9 : p.1 ∈ metV L := by rw [← hes]; exact List.mem_map_of_mem hp
      obtain ⟨a, ha, e⟩ := List.mem_map.1 h9
      rw [← e]; exact ⟨ha, rfl⟩
    have hcov : ∀ u ∈ L, ∃ p ∈ l, p.1.1 = u := fun u hu => by
      have h9 : (u, Value.agg #[]) ∈ metV L := List.mem_map.2 ⟨u, hu, rfl⟩
      rw [← hes] at h9
      obtain ⟨p, hp, e⟩ := List.mem_map.1 h9
      exact ⟨p, hp, by rw [e]⟩
    have HST := Lib.hid hst
    have H1 := Lib.hid (And.intro hb1 (And.intro hl (And.intro hmem (And.intro hcov (And.intro hL (And.intro hoo (show w1.heap.size ≤ r0 by rw [← hr0]; exact hb2.size)))))))
    clear hst hb1 hl hmem hcov hL hoo hb2 hl2 hes hr0 hw3 hin hM HRE1
    go_wp2_with fail
    go_loopw [9] (fun v9 wr => ∃ (v : Int) (seen : Array Nat), v9 = .int .u64 v ∧ ViR w1 r0 M l cl A o seen v wr) (fun _ wr => gunseen l r0 wr)
    case atStart => exact ⟨o, _, rfl, HST.out⟩
    case round =>
      clear HST
      obtain ⟨v, seen, rfl, hR⟩ := hrel
      have hMw : M < w1.heap.size := lt_of_block H1.out.2.1.2.2.2
      have hlr : GMapC wr M l cl := H1.out.2.1.keep (hR.bl.block _ hMw)
      obtain ⟨vv, w0', w', hrun, hw0, hcase⟩ := gmap_next (P := Try.prog) (ty := 0) hlr hR.it
      have hnx : ∀ ty, (Instr.next (.pointer (some ⟨r0, 0, none⟩)) false ty).run Try.prog wr = _ := fun _ => hrun
      have hu0 : gunseen l r0 wr = (l.filter fun p => !seen.contains p.2).length := by unfold gunseen; rw [hR.it]
      have hR0 : ViR w1 r0 M l cl A o seen v w0' := by
        rcases hw0 with rfl | rfl
        · exact hR
        · exact ⟨hR.it, below_drewN hR.bl 1, hR.ge, hR.ok, hR.on⟩
      have hl0 : GMapC w0' M l cl := H1.out.2.1.keep (hR0.bl.block _ hMw)
      rcases hcase with ⟨hall, rfl, rfl⟩ | ⟨p, hp, hns, rfl, rfl⟩
      · have hpost : ViPost w A o (.returned (.tuple #[.int .u64 v, .bool true])) w' := by
          refine ⟨v, true, rfl, H1.out.1.trans (hR0.bl.mono H1.out.1.size), .inr ⟨rfl, H1.out.2.2.2.2.2.1, ?_⟩⟩
          have hoo := H1.out.2.2.2.2.2.1
          have hle : ∀ u, A.Reach o u → A.Reach u o → u ≤ v := fun u hu1 hu2 => by
            obtain ⟨p, hp, e⟩ := H1.out.2.2.2.1 u ((H1.out.2.2.2.2.1 u).2 hu1)
            have := hR0.ok p hp (hall p hp) (by rw [e]; exact hu2)
            rw [e] at this
            exact this
          rcases hR0.on with e | ⟨e1, e2⟩
          · rw [e]; rw [e] at hle; exact ⟨hoo, hoo, hle⟩
          · exact ⟨e1, e2, hle⟩
        have HP := Lib.hid hpost
        clear hpost hR0 hR hlr hl0 hu0 hrun hall hMw hw0
        go_wp2
        refine bodyPost_ret (by simp [results, Try.results22, go_sem]; try rfl) rfl ?_
        exact HP.out
      · obtain ⟨hpL, hpv⟩ := H1.out.2.2.1 p hp
        have hou := (H1.out.2.2.2.2.1 _).1 hpL
        obtain ⟨wi, hwi⟩ : ∃ wi, setObjW w0' r0 (.mapIter (some M) cl (seen.push p.2) cl) = wi := ⟨_, rfl⟩
        have hit : wi.heap[r0]? = some (.mapIter (some M) cl (seen.push p.2) cl) := by rw [← hwi]; exact setObjW_same hR0.it
        have hrl := H1.out.2.2.2.2.2.2
        have hli : GMapC wi M l cl := by rw [← hwi]; exact hl0.keep (setObjW_other _ _ _ _ (by omega))
        have hen := gmap_entry (P := Try.prog) hli hp hit
        rw [hwi, hpv] at hnx
        rw [hpv] at hen
        change ∀ ty, (Instr.next (.pointer (some ⟨r0, 0, none⟩)) false ty).run Try.prog wr = .ok (.tuple #[.bool true, .int .u64 p.1.1, .agg #[]]) wi at hnx
        change (Instr.entry (.pointer (some ⟨r0, 0, none⟩))).run Try.prog wi = .ok (.tuple #[.int .u64 p.1.1, .agg #[]]) wi at hen
        have hlt : ∀ wz : World, wz.heap[r0]? = some (.mapIter (some M) cl (seen.push p.2) cl) → gunseen l r0 wz < gunseen l r0 wr := by
          intro wz hz
          rw [hu0]
          unfold gunseen
          rw [hz]
          refine filter_lt' _ _ l (fun x _ hx => ?_) ⟨p, hp, by simpa using hns, by simp⟩
          simp at hx ⊢
          exact hx.1
        have hpush : ∀ v' W, v ≤ v' → (A.Reach p.1.1 o → p.1.1 ≤ v') → (v' = v ∨ (A.Reach o v' ∧ A.Reach v' o)) → Below wi.heap.size wi W → ViR w1 r0 M l cl A o (seen.push p.2) v' W := fun v' W h1 h2 h3 hW => by
          rw [← hwi] at hW
          exact hR0.push H1.out.2.1.2.1 hp h1 h2 h3 hrl hW
        have hbi : Below w.heap.size w wi := by
          have h9 : Below w1.heap.size w1 wi := by
            rw [← hwi]
            exact ⟨hR0.bl.os, hR0.bl.tape, hR0.bl.output, by rw [setObjW_size]; exact hR0.bl.size, fun k hk => by rw [setObjW_other _ _ _ _ (by omega)]; exact hR0.bl.block k hk⟩
          exact H1.out.1.trans (h9.mono H1.out.1.size)
        obtain ⟨u, hu⟩ : ∃ u, p.1.1 = u := ⟨_, rfl⟩
        rw [hu] at hnx hen hpush hou
        have HPU := Lib.hid hpush
        have HLT := Lib.hid hlt
        have HIT := Lib.hid (And.intro hit hou)
        have HCA := Lib.hid (HRE.out wi hbi u)
        clear hpush hlt hit hou hbi hli hwi hu0 hrun hw0 hR0 hR hl0 hlr hMw hns hp hrl hpv hpL hu
        by_cases huv : u ≤ v
        · have hfin := HPU.out v wi (Int.le_refl _) (fun _ => huv) (.inl rfl) (Below.refl _ _)
          have HF := Lib.hid hfin
          clear hfin HPU HCA
          go_wp2
          go_roundw
          case rel => exact ⟨v, _, rfl, HF.out⟩
          case measure => exact HLT.out _ HIT.out.1
        · go_wp2_with fail
          refine HCA.out.mono ?_
          rintro e w5 ⟨M2, L2, rfl, hgm2, hL2, hM2, hb5⟩
          have hlk2 := gmap_lookup (P := Try.prog) Try.underlying90 Try.underlying29 (z86 w5) hgm2 o
          rw [glook_metV] at hlk2
          have hb6 : Below wi.heap.size wi (w5.alloc (.cells #[] 86)) := hb5.alloc hb5.size _
          by_cases hin2 : o ∈ L2
          · rw [if_pos hin2] at hlk2
            change (Instr.lookup 90 (.map (some M2)) (.int .u64 o) true).run Try.prog w5 = .ok (.tuple #[.agg #[], .bool true]) w5 at hlk2
            have hfin := HPU.out u _ (by omega) (fun _ => Int.le_refl _) (.inr ⟨HIT.out.2, (hL2 o).1 hin2⟩) hb6
            have HF := Lib.hid hfin
            clear hfin HPU HCA hgm2 hL2 hM2 hb5 hb6 hin2
            go_wp2
            go_roundw
            case rel => exact ⟨u, _, rfl, HF.out⟩
            case measure => exact HLT.out _ HF.out.it
          · rw [if_neg hin2] at hlk2
            change (Instr.lookup 90 (.map (some M2)) (.int .u64 o) true).run Try.prog w5 = .ok (.tuple #[.agg #[], .bool false]) w5 at hlk2
            have hfin := HPU.out v _ (Int.le_refl _) (fun h9 => absurd ((hL2 o).2 h9) hin2) (.inl rfl) hb6
            have HF := Lib.hid hfin
            clear hfin HPU HCA hgm2 hL2 hM2 hb5 hb6 hin2
            go_wp2
            go_roundw
            case rel => exact ⟨v, _, rfl, HF.out⟩
            case measure => exact HLT.out _ HF.out.it
  · rw [if_neg hin] at hlk
    change (Instr.lookup 90 (.map (some M)) (.int .u64 o) true).run Try.prog w1 = .ok (.tuple #[.agg #[], .bool false]) w1 at hlk
    have HP : Hid (∀ ob, ViPost w A o (.returned (.tuple #[.int .u64 0, .bool false])) (w1.alloc ob)) := fun ob => ⟨0, false, rfl, hb1.alloc hb1.size _, .inl ⟨rfl, rfl, fun h9 => hin ((hL o).2 h9)⟩⟩
    clear hgm hL hb1 hM hin HRE HRE1
    go_wp2
    refine bodyPost_ret (by simp [results, Try.results22, go_sem]; try rfl) rfl ?_
    exact HP.out _
end Mun
end

section
/- The deeds that lock's laws are handed. -/
set_option maxRecDepth 100000
set_option linter.unusedVariables false
namespace Mun
open Go Go.RowKit Go.ChangeShapes Go.WideShapes
open Go.Proofs

structure LDeed where
  op : Int
  o : Int
  s : ByteArray
  m : Int
def LDeed.cells (d : LDeed) : List Value := [.int .i64 d.op, .int .u64 d.o, .string d.s, .int .i64 d.m]
def LDeed.Ok (d : LDeed) : Prop := (-9223372036854775808 ≤ d.op ∧ d.op ≤ 9223372036854775807) ∧ (0 ≤ d.o ∧ d.o ≤ 18446744073709551615) ∧ d.s.size ≤ 140737488355328 ∧ (-9223372036854775808 ≤ d.m ∧ d.m ≤ 9223372036854775807)

/-- a slice of deeds -/
structure LDeedsAt (F : Foot) (w : World) (v : Value) (l : List LDeed) : Prop where
  row : RdV F w 4 v l.length (l.flatMap LDeed.cells)
  ok : ∀ d ∈ l, d.Ok

theorem ldeeds_length (l : List LDeed) : (l.flatMap LDeed.cells).length = l.length * 4 := by
  induction l with
  | nil => rfl
  | cons a l ih => simp only [List.flatMap_cons, List.length_append, ih, LDeed.cells, List.length_cons, List.length_nil]; omega
theorem ldeeds_get (l : List LDeed) (i j : Nat) (h : i < l.length) (hj : j < 4) : (l.flatMap LDeed.cells)[i * 4 + j]? = (l[i].cells)[j]? := by
  induction l generalizing i with
  | nil => simp at h
  | cons a l ih =>
    cases i with
    | zero =>
      rw [List.flatMap_cons, List.getElem?_append_left (by simp [LDeed.cells]; omega)]
      simp
    | succ i =>
      rw [List.flatMap_cons, List.getElem?_append_right (by simp [LDeed.cells]; omega)]
      have : (i + 1) * 4 + j - (LDeed.cells a).length = i * 4 + j := by simp [LDeed.cells]; omega
      rw [this, ih i (by simpa using h)]
      simp

/-- a row of whatever size, from its cells -/
theorem rdV_of_cells {F : Foot} {w : World} {x : Addr} {len cap size : Nat} {xs : List Value} (hl : xs.length = len * size) (hs : 0 < size) (hlc : len ≤ cap) (hcm : cap ≤ maxLen) (hF : ¬ F x.block)
    (hc : ∀ i (hi : i < xs.length), w.cell? (x.add i) = some xs[i]) : RdV F w size (.slice (some x) len cap) len xs := by
  refine ⟨hl, _, _, rfl, hlc, hcm, by simp, fun hn => ?_⟩
  have hpos : 0 < xs.length := by rw [hl]; exact Nat.mul_pos hn hs
  have h0 := hc 0 hpos
  rw [show x.add 0 = x by simp [Addr.add]] at h0
  obtain ⟨hs', cur, e, fr, hh, _⟩ := cell_block h0
  obtain ⟨g, off, spot⟩ := x
  simp only at hs' hh hF
  subst hs'
  refine ⟨g, off, cur, e, fr, rfl, hF, hh, ?_⟩
  apply List.ext_getElem?
  intro i
  rw [List.getElem?_take]
  by_cases hi : i < xs.length
  · rw [if_pos (by omega), List.getElem?_drop, List.getElem?_eq_getElem hi]
    have h := hc i hi
    rw [addr_add, cell_of_row w g (off + i) cur e fr hh] at h
    simpa using h
  · rw [if_neg (by omega), List.getElem?_eq_none (by omega)]

section
variable {H : Type} {enc : TypeId × Value → H}

theorem list_of_fun {α : Type} {n : Nat} {P : Nat → α → Prop} (h : ∀ i, i < n → ∃ x, P i x) : ∃ l : List α, l.length = n ∧ ∀ i (hi : i < l.length), P i l[i] := by
  induction n with
  | zero => exact ⟨[], rfl, fun i hi => absurd hi (Nat.not_lt_zero _)⟩
  | succ n ih =>
    obtain ⟨l, hl, hP⟩ := ih (fun i hi => h i (by omega))
    obtain ⟨x, hx⟩ := h n (by omega)
    refine ⟨l ++ [x], by simp [hl], fun i hi => ?_⟩
    by_cases hin : i < l.length
    · rw [List.getElem_append_left hin]; exact hP i hin
    · have : i = n := by simp [hl] at hi; omega
      subst this
      rw [List.getElem_append_right (by omega)]
      simpa [hl] using hx

theorem weightsAll_mem {P : Program} {e : TypeId} {l : List (DataW H)} {d : DataW H} (hd : d ∈ l) {n : Nat} (hn : n ∈ d.weights P e) : n ∈ DataW.weightsAll P e l := by
  induction l with
  | nil => cases hd
  | cons a l ih =>
    simp only [DataW.weightsAll, List.mem_append]
    rcases List.mem_cons.1 hd with rfl | hd
    · exact .inl hn
    · exact .inr (ih hd)


theorem open_ldeeds {w : World} {r : Reach} {b0 base : Nat} {spare : Nat → Bool} {held : Bool} {v : Value} {d : DataW H} {p : List MemPlace}
    (hv : Value.okWide Try.prog w r b0 40 v) (h : DataW.Trod enc Try.prog w base spare held 40 v d p) (hwt : ∀ n ∈ d.weights Try.prog 40, n ≤ reachBytes) :
    ∃ l : List LDeed, LDeedsAt NoF w v l ∧ ((d = .nil ∧ l = []) ∨ ∃ el sp, d = .slice el sp ∧ l.length ≤ el.length + sp.length) := by
  obtain ⟨a0, len0, cap0, rfl⟩ := okWide_slice Try.underlying40 hv
  obtain ⟨fuel, hf⟩ := h
  rcases Deep.open_slice Try.underlying40 hf with ⟨hcs, hx⟩ | ⟨x, len, c, m, n, D, Pl, hcs, _, hl, hm, hmm, hx, hi⟩
  · simp [Value.cells] at hcs
    obtain ⟨rfl, rfl, rfl⟩ := hcs
    simp only [Prod.mk.injEq] at hx
    exact ⟨[], ⟨RdV.nil _ _ _, by simp⟩, .inl ⟨hx.1, rfl⟩⟩
  · simp [Value.cells] at hcs
    obtain ⟨rfl, rfl, rfl⟩ := hcs
    simp only [Prod.mk.injEq] at hx
    have hC : Try.prog.cellsOf 42 = 4 := by kernel_rfl
    rw [hC] at hi
    have hlm : len0 ≤ m := by rw [hmm]; split <;> omega
    have hel : ∀ i, i < len0 → ∃ e : LDeed, (∀ j (hj : j < 4), w.cell? (x.add (i * 4 + j)) = e.cells[j]?) ∧ e.Ok := by
      intro i hi0
      obtain ⟨cs', hc, ht'⟩ := hi i (by omega)
      obtain ⟨xs, n', _, hxe, _, hlen, hf'⟩ := DataW.trod_struct Try.underlying42 ht'
      obtain ⟨_, hcl, hat⟩ := World.cells?_some hc
      simp only [Prod.mk.injEq] at hxe
      match cs', hcl with
      | [c0, c1, c2, c3], _ =>
        have e0 : Try.prog.cellsOf 3 = 1 := by kernel_rfl
        have e1 : Try.prog.cellsOf 29 = 1 := by kernel_rfl
        have e2 : Try.prog.cellsOf 9 = 1 := by kernel_rfl
        have f0 : DataW.trod enc Try.prog w base spare held n' 3 (([c0, c1, c2, c3].drop 0).take (Try.prog.cellsOf 3)) = xs[0]? := hf' 0 _ rfl
        have f1 : DataW.trod enc Try.prog w base spare held n' 29 (([c0, c1, c2, c3].drop 1).take (Try.prog.cellsOf 29)) = xs[1]? := hf' 1 _ rfl
        have f2 : DataW.trod enc Try.prog w base spare held n' 9 (([c0, c1, c2, c3].drop 2).take (Try.prog.cellsOf 9)) = xs[2]? := hf' 2 _ rfl
        have f3 : DataW.trod enc Try.prog w base spare held n' 3 (([c0, c1, c2, c3].drop 3).take (Try.prog.cellsOf 3)) = xs[3]? := hf' 3 _ rfl
        rw [e0] at f0 f3
        rw [e1] at f1
        rw [e2] at f2
        have hlen4 : xs.length = 4 := hlen
        rw [List.getElem?_eq_getElem (by omega)] at f0 f1 f2 f3
        obtain ⟨z0, h0, _, hw0⟩ := DataW.trod_int Try.underlying3 f0
        obtain ⟨z1, h1, _, hw1⟩ := DataW.trod_int Try.underlying29 f1
        obtain ⟨s2, h2, hx2, hs2⟩ := DataW.trod_string Try.underlying9 f2
        obtain ⟨z3, h3, _, hw3⟩ := DataW.trod_int Try.underlying3 f3
        have hwx : ∀ q ∈ (xs[2]'(by omega)).1.weights Try.prog 9, q ≤ reachBytes := fun q hq => by
          refine hwt q ?_
          rw [hx.1]
          have hag : DataW.weights Try.prog 42 (D i) = DataW.weightsEach Try.prog [3, 29, 9, 3] (xs.map (·.1)) := by
            rw [hxe.1]
            simp [DataW.weights, Try.underlying42]
          have h5 : q ∈ DataW.weights Try.prog 42 (D i) := by
            rw [hag]
            exact DataW.weights_mem_each (j := 2) rfl (by rw [List.getElem?_map, List.getElem?_eq_getElem (by omega)]; rfl) q hq
          have h6 := weightsAll_mem (l := (List.range len0).map D) (List.mem_map.2 ⟨i, List.mem_range.2 hi0, rfl⟩) h5
          simp only [DataW.weights, Try.underlying40, List.mem_cons, List.mem_append]
          exact .inr (.inl h6)
        have hsz : s2.size ≤ 140737488355328 := by
          have h9 := hwx s2.size (by rw [hx2]; simp [DataW.weights])
          simp only [reachBytes] at h9
          omega
        obtain rfl : c0 = .int .i64 z0 := by simpa using h0
        obtain rfl : c1 = .int .u64 z1 := by simpa using h1
        obtain rfl : c2 = .string s2 := by simpa using h2
        obtain rfl : c3 = .int .i64 z3 := by simpa using h3
        have hb0 := bounds_i64 hw0
        have hb1 := bounds_u64 hw1
        have hb3 := bounds_i64 hw3
        refine ⟨⟨z0, z1, s2, z3⟩, fun j hj => ?_, ⟨hb0.1, by show z0 ≤ _; have := hb0.2; omega⟩, ⟨hb1.1, by show z1 ≤ _; have := hb1.2; omega⟩, hsz, ⟨hb3.1, by show z3 ≤ _; have := hb3.2; omega⟩⟩
        have := hat j hj
        rw [Go.Deep.add_add] at this
        exact this
    obtain ⟨l, hll, hP⟩ := list_of_fun hel
    subst hll
    refine ⟨l, ⟨?_, fun e he => ?_⟩, .inr ⟨_, _, hx.1, by simp⟩⟩
    · refine rdV_of_cells (ldeeds_length l) (by decide) hl hm (noF _) (fun i hi' => ?_)
      have hi3 : i / 4 < l.length := by rw [ldeeds_length] at hi'; omega
      have := (hP (i / 4) hi3).1 (i % 4) (Nat.mod_lt _ (by decide))
      have e : i / 4 * 4 + i % 4 = i := by omega
      rw [e] at this
      rw [this, ← ldeeds_get l (i / 4) (i % 4) hi3 (Nat.mod_lt _ (by decide)), e, List.getElem?_eq_getElem hi']
    · obtain ⟨i, hi', rfl⟩ := List.getElem_of_mem he
      exact (hP i hi').2

theorem ldeeds_reach {ts : List TypeId} {ds : List (DataW H)} {j : Nat} {d : DataW H} {l : List LDeed} (hsz : (DataW.weightsEach Try.prog ts ds).all (· ≤ reachBytes) = true)
    (htj : ts[j]? = some 40) (hdj : ds[j]? = some d)
    (h : (d = .nil ∧ l = []) ∨ ∃ el sp, d = .slice el sp ∧ l.length ≤ el.length + sp.length) : l.length ≤ 3518437208882 := by
  rcases h with ⟨_, rfl⟩ | ⟨el, sp, rfl, hl⟩
  · simp
  · have := sized_slice hsz htj hdj Try.underlying40
    have hb : Try.prog.bytesOf 42 = 40 := by kernel_rfl
    rw [hb] at this
    simp only [reachBytes] at this
    omega
end

section
variable {F F' : Foot} {w w' : World} {v : Value} {l : List LDeed}
theorem LDeedsAt.below (h : LDeedsAt F w v l) (hb : Below w.heap.size w w') : LDeedsAt F w' v l := ⟨h.row.below hb, h.ok⟩
/-- a deed's cells -/
theorem LDeedsAt.at_ (h : LDeedsAt F w v l) (i : Nat) (hi : i < l.length) : ∃ g off c, v = .slice (some ⟨g, off, none⟩) l.length c ∧
    w.cell? ⟨g, off + i * 4, none⟩ = some (.int .i64 l[i].op) ∧ w.cell? ⟨g, off + i * 4 + 1, none⟩ = some (.int .u64 l[i].o) ∧ w.cell? ⟨g, off + i * 4 + 2, none⟩ = some (.string l[i].s) ∧ w.cell? ⟨g, off + i * 4 + 3, none⟩ = some (.int .i64 l[i].m) := by
  obtain ⟨g, off, c, hv, h1, h2, _, _, hc⟩ := h.row.at_ (by omega)
  refine ⟨g, off, c, hv, ?_, ?_, ?_, ?_⟩
  · have := hc (i * 4 + 0) _ (by rw [ldeeds_get l i 0 hi (by decide)]; rfl)
    exact this
  · have := hc (i * 4 + 1) _ (by rw [ldeeds_get l i 1 hi (by decide)]; rfl)
    rwa [← Nat.add_assoc] at this
  · have := hc (i * 4 + 2) _ (by rw [ldeeds_get l i 2 hi (by decide)]; rfl)
    rwa [← Nat.add_assoc] at this
  · have := hc (i * 4 + 3) _ (by rw [ldeeds_get l i 3 hi (by decide)]; rfl)
    rwa [← Nat.add_assoc] at this
end
end Mun
end

section
/- A table within a law's walk: what it holds, its frame; what each call does to it. -/
set_option maxRecDepth 100000
set_option linter.unusedVariables false
set_option linter.unusedSimpArgs false
namespace Mun
open Go Go.RowKit
open Go.Proofs

theorem meas_up {n i : Nat} {j : Int} (h : j = ((i + 1 : Nat) : Int)) (hi : i < n) : n - (Go.RowKit.intOf (.int .i64 j)).toNat < n - (Go.RowKit.intOf (.int .i64 (i : Int))).toNat := by
  subst h; simp only [Go.RowKit.intOf]; omega

def AS.none : AS := ⟨fun _ _ => Option.none, fun _ => []⟩

/-- a table at T that holds A; its blocks lie behind W1 -/
structure Sd (W1 w : World) (T : Nat) (t : TV) (A : AS) (c : Nat) : Prop where
  bl : Below W1.heap.size W1 w
  T : t.T = T
  tab : TabR w t
  rep : RepA t A
  ok : A.Ok
  sz : SzOk t c
  lo : ∀ k, tfoot t k → W1.heap.size ≤ k

section
variable {W1 w w' : World} {T U : Nat} {t t' u : TV} {A A' B : AS} {c c' d : Nat}
theorem Sd.below (h : Sd W1 w T t A c) (hb : Below w.heap.size w w') : Sd W1 w' T t A c :=
  ⟨h.bl.trans (hb.mono h.bl.size), h.T, h.tab.keep hb.block, h.rep, h.ok, h.sz, h.lo⟩
theorem Sd.mono (h : Sd W1 w T t A c) (hc : c ≤ c') : Sd W1 w T t A c' := ⟨h.bl, h.T, h.tab, h.rep, h.ok, h.sz.mono hc, h.lo⟩
/-- whatever is turned but the table's blocks and those of the old memory -/
theorem Sd.turn (h : Sd W1 w T t A c) (h1 : w.heap.size ≤ w'.heap.size) (h2 : w'.os = w.os) (h3 : w'.tape = w.tape) (h4 : w'.output = w.output) (hk : ∀ k, k < w.heap.size → (k < W1.heap.size ∨ tfoot t k) → w'.heap[k]? = w.heap[k]?) : Sd W1 w' T t A c :=
  ⟨⟨h2.trans h.bl.os, h3.trans h.bl.tape, h4.trans h.bl.output, Nat.le_trans h.bl.size h1, fun k hk2 => (hk k (Nat.lt_of_lt_of_le hk2 h.bl.size) (.inl hk2)).trans (h.bl.block k hk2)⟩, h.T, h.tab.keepF (fun k hk2 => hk k (h.tab.foot_lt hk2) (.inr hk2)), h.rep, h.ok, h.sz, h.lo⟩
theorem Sd.stp (h : Sd W1 w T t A c) (k : Stp w t w' t') (hr : RepA t' A') (hok : A'.Ok) (hs : SzOk t' c') : Sd W1 w' T t' A' c' :=
  ⟨⟨k.chg.os.trans h.bl.os, k.chg.tape.trans h.bl.tape, k.chg.output.trans h.bl.output, Nat.le_trans h.bl.size k.chg.size, fun j hj => (k.chg.block j (Nat.lt_of_lt_of_le hj h.bl.size) (fun e => by have := h.lo j e; omega)).trans (h.bl.block j hj)⟩,
    k.T.trans h.T, k.rep, hr, hok, hs, fun j hj => (k.chg.foot j hj).elim (h.lo j) (fun x => Nat.le_trans h.bl.size x.1)⟩
/-- a table beside one that takes a step -/
theorem Sd.beside (h : Sd W1 w U u B d) (k : Stp w t w' t') (ht : ∀ j, j < W1.heap.size → ¬ tfoot t j) (hd : ∀ j, tfoot t j → ¬ tfoot u j) : Sd W1 w' U u B d ∧ ∀ j, tfoot t' j → ¬ tfoot u j :=
  ⟨h.turn k.chg.size k.chg.os k.chg.tape k.chg.output (fun j hj hor => k.chg.block j hj (fun e => hor.elim (fun h9 => ht j h9 e) (hd j e))),
    fun j hj => (k.chg.foot j hj).elim (hd j) (fun x e => by have := h.tab.foot_lt e; omega)⟩

theorem Sd.ask (h : Sd W1 w T t A c) (hc : c ≤ 8796093022199) (o : Int) (s : ByteArray) (m : Int) (hs : s.size ≤ maxLen) :
    Calls Try.prog 17 #[.pointer (some ⟨T, 0, none⟩), .int .u64 o, .string s, .int .i64 m] w fun e w' => e = .returned (.int .i64 (A.ask o s m).2) ∧ ∃ t', Stp w t w' t' ∧ Sd W1 w' T t' (A.ask o s m).1 (c + 1) := by
  have h9 := ask_any h.tab h.rep h.ok h.sz hc o s m hs
  rw [h.T] at h9
  refine h9.mono ?_
  rintro e w' ⟨rfl, t', hst, hr, hz⟩
  exact ⟨rfl, t', hst, h.stp hst hr (h.ok.ask o s m) hz⟩
theorem popped_nodup {A : AS} (hok : A.Ok) (o : Int) : ∀ {ns : List ByteArray}, ns.Nodup → ((popped A o ns).map (·.1)).Nodup
  | [], _ => List.nodup_nil
  | s :: ns, h => by
    rw [List.nodup_cons] at h
    have ih := popped_nodup hok o h.2
    have hc : popped A o (s :: ns) = (A.pop o s).2.2 ++ popped A o ns := rfl
    rw [hc, List.map_append, List.nodup_append]
    have h8 := popF_split ((A.Q s).filter (neO o)) (upd (A.H s) o Option.none)
    have hf : ((((A.Q s).filter (neO o))).map (·.1)).Nodup := (hok.qn s).sublist ((List.filter_sublist).map _)
    rw [← h8] at hf
    refine ⟨hf.sublist ((List.sublist_append_left _ _).map _), ih, fun a ha b hb e => ?_⟩
    subst e
    obtain ⟨x, hx, rfl⟩ := List.mem_map.1 ha
    obtain ⟨y, hy, he⟩ := List.mem_map.1 hb
    have hx' := (pop_mem.1 (.inl hx : x ∈ (A.pop o s).2.2 ∨ _)).1
    obtain ⟨s', hs', hy', -, -⟩ := popped_in hy
    have : s = s' := hok.qu x.1 s x.2 s' y.2 hx' (by rw [← he]; exact hy')
    exact h.1 (this ▸ hs')
theorem popped_len {t : TV} {A : AS} (hr : RepA t A) (hok : A.Ok) (o : Int) {ns : List ByteArray} (hns : ns.Nodup) : (popped A o ns).length ≤ t.ws.length := by
  have h1 := nodup_len (a := (popped A o ns).map (·.1)) (b := t.ws.map (·.1)) (popped_nodup hok o hns) (fun u hu => by
    obtain ⟨x, hx, rfl⟩ := List.mem_map.1 hu
    obtain ⟨s, -, hq, -, -⟩ := popped_in hx
    have h9 := (hr.ws x.1 s x.2).2 hq
    exact List.mem_map.2 ⟨_, klook_in h9, rfl⟩)
  simpa using h1

/-- what Free answers -/
def FrS (W1 w : World) (T : Nat) (t : TV) (A : AS) (o : Int) (c : Nat) (e : Ending) (w' : World) : Prop :=
  ∃ v ns t', e = .returned v ∧ ns.Pairwise leN ∧ ns.Nodup ∧ (∀ s, s ∈ ns ↔ A.touched o s) ∧ Stp w t w' t' ∧ Sd W1 w' T t' (A.freed o) c ∧
    w'.ownsRow w.heap.size 29 1 v (popped A o ns).length (ov (popped A o ns)) ∧ (∀ k, v.ownBlock = some k → ¬ tfoot t' k) ∧ (popped A o ns).length ≤ c
theorem Sd.free (h : Sd W1 w T t A c) (hc : c ≤ 8796093022199) (o : Int) :
    Calls Try.prog 19 #[.pointer (some ⟨T, 0, none⟩), .int .u64 o] w (FrS W1 w T t A o c) := by
  have h9 := free_any h.tab h.rep h.sz hc h.ok.qn o
  rw [h.T] at h9
  refine h9.mono ?_
  rintro e w' ⟨v, ns, t', rfl, h1, h2, h3, hst, hr, hz, hrow, hnf⟩
  exact ⟨v, ns, t', rfl, h1, h2, h3, hst, h.stp hst hr (h.ok.freed o) hz, hrow, hnf, Nat.le_trans (popped_len h.rep h.ok o h2) h.sz.ws⟩
theorem Sd.victim (h : Sd W1 w T t A c) (hc : c ≤ 8796093022199) (o : Int) :
    Calls Try.prog 22 #[.pointer (some ⟨T, 0, none⟩), .int .u64 o] w (ViPost w A o) := by
  have h9 := victim_r h.tab h.rep h.ok h.sz hc o
  rw [h.T] at h9
  exact h9
theorem Sd.queue (h : Sd W1 w T t A c) (hc : c ≤ 8796093022199) (s : ByteArray) :
    Calls Try.prog 21 #[.pointer (some ⟨T, 0, none⟩), .string s] w fun e w' => ∃ v, e = .returned v ∧ w'.ownsRow w.heap.size 29 1 v (A.Q s).length (ov (A.Q s)) ∧ Below w.heap.size w w' := by
  have h9 := queue_r h.tab h.rep h.sz hc s
  rw [h.T] at h9
  exact h9
theorem Sd.waits (h : Sd W1 w T t A c) (o : Int) :
    Calls Try.prog 23 #[.pointer (some ⟨T, 0, none⟩), .int .u64 o] w fun e w' => ∃ (gs : ByteArray) (gm : Int) (gw : Bool), e = .returned (.tuple #[.agg #[.string gs, .int .i64 gm], .bool gw]) ∧ Below w.heap.size w w' ∧
      ((gw = true ∧ (o, gm) ∈ A.Q gs) ∨ (gw = false ∧ ¬ A.waits o ∧ gs = ⟨#[]⟩ ∧ gm = 0)) := by
  have h9 := waits_r h.tab o
  rw [h.T] at h9
  refine h9.mono ?_
  rintro e w' ⟨gs, gm, gw, rfl, hb, hgw⟩
  refine ⟨gs, gm, gw, rfl, hb, ?_⟩
  rcases hgw with ⟨h1, h2⟩ | ⟨h1, h2, h3, h4⟩
  · exact .inl ⟨h1, (h.rep.ws o gs gm).1 h2⟩
  · refine .inr ⟨h1, ?_, h3, h4⟩
    rintro ⟨s, m, hq⟩
    have h8 := (h.rep.ws o s m).2 hq
    rw [h2] at h8
    cases h8
theorem Sd.qlen (h : Sd W1 w T t A c) (s : ByteArray) : (A.Q s).length ≤ c := by
  cases hk : klook t.pl s with
  | none => rw [(h.rep.pn s hk).2]; exact Nat.zero_le _
  | some x =>
    have h1 := h.sz.qs s x hk
    rw [← (h.rep.pl s x hk).2]; omega
theorem sd_new (w : World) : Calls Try.prog 16 #[] w fun e w' => ∃ t : TV, e = .returned (.pointer (some ⟨t.T, 0, none⟩)) ∧ Below w.heap.size w w' ∧ Sd w w' t.T t AS.none 0 := by
  refine (tabNew_any w).mono ?_
  rintro e w' ⟨rfl, hb, hs, ht⟩
  refine ⟨⟨w.heap.size + 3, w.heap.size, w.heap.size + 1, w.heap.size + 2, [], [], []⟩, rfl, hb, hb, rfl, ⟨ht, fun i x hx => by simp at hx, fun i x hx => by simp at hx, ⟨by show w.heap.size ≠ w.heap.size + 1; omega, by show w.heap.size ≠ w.heap.size + 2; omega, by show w.heap.size + 1 ≠ w.heap.size + 2; omega⟩, fun i x hx => by simp at hx, fun i x hx => by simp at hx, fun i j x y _ hx => by simp at hx, fun i j x y _ hx => by simp at hx, fun i j x y hx => by simp at hx⟩, ⟨fun s x hx => ?_, fun s _ => ⟨fun _ => rfl, rfl⟩, fun u s m => ⟨fun hx => ?_, fun hx => ?_⟩, fun u s => ⟨fun hx => ?_, fun hx => absurd rfl hx⟩⟩, AS.Ok.empty, ⟨fun s hx => absurd rfl hx, Nat.le_refl _, fun s x hx => ?_, Nat.le_refl _⟩, fun k hk => ?_⟩
  · cases hx
  · cases hx
  · cases hx
  · cases hx
  · cases hx
  · rcases hk with rfl | rfl | rfl | rfl | ⟨i, x, hx, -⟩ | ⟨i, x, hx, -⟩
    · show _ ≤ w.heap.size + 3; omega
    · exact Nat.le_refl _
    · show _ ≤ w.heap.size + 1; omega
    · show _ ≤ w.heap.size + 2; omega
    · simp at hx
    · simp at hx
theorem Sd.base {W0 : World} (h : Sd W1 w T t A c) (hb : Below W0.heap.size W0 W1) : Sd W0 w T t A c :=
  ⟨hb.trans (h.bl.mono hb.size), h.T, h.tab, h.rep, h.ok, h.sz, fun k hk => Nat.le_trans hb.size (h.lo k hk)⟩
end

/-- numbers, of two rows -/
theorem numbers_rows {w : World} {va vb : Value} {ba bb : Nat} {l : List (Int × Int)} (h1 : w.ownsRow ba 29 1 va l.length (ov l)) (h2 : w.ownsRow bb 29 1 vb l.length (ov l)) (hl : l.length ≤ 8796093022200) :
    Calls Try.prog 20 #[va, vb] w fun e w' => e = .returned (.bool true) ∧ Below w.heap.size w w' := by
  have r1 := RdV.of_own (F := NoF) h1 (fun _ _ => noF _)
  have r2 := RdV.of_own (F := NoF) h2 (fun _ _ => noF _)
  obtain ⟨a, c, rfl, -, -⟩ := r1.form
  obtain ⟨b, d, rfl, -, -⟩ := r2.form
  exact numbers_same (F := NoF) w a b l.length c d l rfl hl r1 r2
end Mun
end
