/- The reference's reaches. -/
import Derived.Test.YtbdkhegfmnladaaRfP
import Derived.Test.YtbdkhegfmnladaaRfG
set_option maxRecDepth 100000
set_option linter.unusedVariables false
set_option linter.unusedSimpArgs false
namespace Mun
open Go Go.RowKit
open Go.Proofs

theorem step_append_eq14 {P : Program} {ops : Array Oper} {o : Oper} {a : Act} {w : World} {K : Act → World → Prop} {Q : Exit → Act → World → Prop} {E : Prop} (hgd : o.guard = none) {s x : Operand} {t : TypeId}
    (ho : o.op = .call { callee := .builtin .append, args := #[s, x], argTypes := #[t, t] }) {v sv v' : Value} {w' : World}
    (hr : (Builtin.append_ #[t, t] o.type #[v, sv]).run P w = .ok v' w') (hs : a.eval s = v) (hx : a.eval x = sv) (h : K (a.put o.dst v') w') :
    if Region.wanted o (yielded ops a.tmps) = true then Oper.wp P o a w K Q else E := by
  have hw : Region.wanted o (yielded ops a.tmps) = true := by simp [Region.wanted, hgd]
  rw [if_pos hw]
  unfold Oper.wp
  simp [execOp, ho, resolve, invoke, builtin, hs, hx, hr, Result.andThen]
  exact h

def slN : Value → Nat
  | .slice _ n _ => n
  | _ => 0

/-- reaches, under way: plain -/
structure RcP (X : List LX) (A : AS) (o : Int) (out todo : List (Int × Int)) (i : Nat) : Prop where
  nd : (out.map (·.1)).Nodup
  le : i ≤ todo.length
  ini : ∀ u, A.blocks o u → u ∈ todo.map (·.1)
  met : ∀ a ∈ todo.take i, a.1 ∈ out.map (·.1)
  cl : ∀ u ∈ out.map (·.1), ∀ v, A.blocks u v → v ∈ todo.map (·.1)
  re : ∀ u ∈ todo.map (·.1), A.Reach o u
  sub : ∀ u ∈ out.map (·.1), u ∈ todo.map (·.1)
  own : ∀ u ∈ todo.map (·.1), u ∈ ownersX X
  sz : todo.length ≤ (out.length + 1) * tot X
section
variable {X : List LX} {A : AS} {o : Int} {out todo : List (Int × Int)} {i : Nat}
theorem RcP.start (hr : RelX X A) (hok : A.Ok) (o : Int) : RcP X A o [] (wfL X o) 0 :=
  ⟨List.nodup_nil, Nat.zero_le _, fun u h => (hr.wf hok o u).2 h, fun a h => by simp at h, fun u h => by simp at h, fun u h => .one ((hr.wf hok o u).1 h), fun u h => by simp at h, fun u h => wfL_owner h, by
    have := wfL_len (X := X) o
    simpa using this⟩
theorem RcP.old (h : RcP X A o out todo i) (hi : i < todo.length) (hin : todo[i].1 ∈ out.map (·.1)) : RcP X A o out todo (i + 1) := by
  refine ⟨h.nd, hi, h.ini, fun a ha => ?_, h.cl, h.re, h.sub, h.own, h.sz⟩
  rw [List.take_add_one, List.getElem?_eq_getElem hi, Option.toList_some] at ha
  rcases List.mem_append.1 ha with h9 | h9
  · exact h.met a h9
  · rw [List.mem_singleton] at h9; rw [h9]; exact hin
theorem RcP.new (h : RcP X A o out todo i) (hr : RelX X A) (hok : A.Ok) (hi : i < todo.length) (hin : todo[i].1 ∉ out.map (·.1)) : RcP X A o (out ++ [todo[i]]) (todo ++ wfL X todo[i].1) (i + 1) := by
  obtain ⟨p, hp⟩ : ∃ p, todo[i] = p := ⟨_, rfl⟩
  have hpm : p.1 ∈ todo.map (·.1) := List.mem_map.2 ⟨p, by rw [← hp]; exact List.getElem_mem hi, rfl⟩
  rw [hp] at hin ⊢
  have hl : (todo ++ wfL X p.1).map (·.1) = todo.map (·.1) ++ (wfL X p.1).map (·.1) := List.map_append
  have hm : (out ++ [p]).map (·.1) = out.map (·.1) ++ [p.1] := by rw [List.map_append]; rfl
  refine ⟨?_, by rw [List.length_append]; omega, fun u hu => by rw [hl]; exact List.mem_append_left _ (h.ini u hu), fun a ha => ?_, fun u hu v hv => ?_, fun u hu => ?_, fun u hu => ?_, fun u hu => ?_, ?_⟩
  · rw [hm, List.nodup_append]
    exact ⟨h.nd, by simp, fun a ha b hb e => hin (by simp at hb; rw [← hb, ← e]; exact ha)⟩
  · rw [List.take_append_of_le_length (by omega), List.take_add_one, List.getElem?_eq_getElem hi, Option.toList_some, hp] at ha
    rw [hm]
    rcases List.mem_append.1 ha with h9 | h9
    · exact List.mem_append_left _ (h.met a h9)
    · rw [List.mem_singleton] at h9; rw [h9]; exact List.mem_append_right _ (by simp)
  · rw [hm] at hu
    rw [hl]
    rcases List.mem_append.1 hu with h9 | h9
    · exact List.mem_append_left _ (h.cl u h9 v hv)
    · rw [List.mem_singleton] at h9
      exact List.mem_append_right _ ((hr.wf hok p.1 v).2 (h9 ▸ hv))
  · rw [hl] at hu
    rcases List.mem_append.1 hu with h9 | h9
    · exact h.re u h9
    · exact (h.re p.1 hpm).snoc ((hr.wf hok p.1 u).1 h9)
  · rw [hm] at hu
    rw [hl]
    rcases List.mem_append.1 hu with h9 | h9
    · exact List.mem_append_left _ (h.sub u h9)
    · rw [List.mem_singleton] at h9; rw [h9]; exact List.mem_append_left _ hpm
  · rw [hl] at hu
    rcases List.mem_append.1 hu with h9 | h9
    · exact h.own u h9
    · exact wfL_owner h9
  · have h1 := h.sz
    have h2 := wfL_len (X := X) p.1
    rw [List.length_append, List.length_append, List.length_singleton, Nat.add_mul, Nat.one_mul]
    omega
theorem RcP.lim (h : RcP X A o out todo i) : out.length ≤ tot X := by
  have h9 := nodup_len h.nd (fun u hu => h.own u (h.sub u hu))
  rw [ownersX_len, List.length_map] at h9
  exact h9
theorem RcP.done (h : RcP X A o out todo i) (hi : todo.length ≤ i) (u : Int) : u ∈ out.map (·.1) ↔ A.Reach o u := by
  have hall : ∀ v ∈ todo.map (·.1), v ∈ out.map (·.1) := fun v hv => by
    obtain ⟨a, ha, rfl⟩ := List.mem_map.1 hv
    exact h.met a (by rw [List.take_of_length_le hi]; exact ha)
  constructor
  · exact fun hu => h.re u (h.sub u hu)
  · intro hr
    have key : ∀ a b, A.Reach a b → (∀ x, A.blocks a x → x ∈ out.map (·.1)) → b ∈ out.map (·.1) := by
      intro a b hab
      induction hab with
      | one h1 => exact fun hx => hx _ h1
      | step h1 _ ih => exact fun hx => ih (fun x hx2 => hall _ (h.cl _ (hx _ h1) x hx2))
    exact key o u hr (fun x hx => hall _ (h.ini x hx))
theorem rc_meas {T n m k i : Nat} (hn : n + 1 ≤ T) (hk : k ≤ T) (hi : i < m) : (T - (n + 1)) * (T + 1) + (m + k - (i + 1)) < (T - n) * (T + 1) + (m - i) := by
  have h1 : T - n = (T - (n + 1)) + 1 := by omega
  rw [h1, Nat.add_mul, Nat.one_mul]
  omega
theorem rc_lim {out todo T : Nat} (h : todo ≤ (out + 1) * T) (ho : out ≤ T) (hT : T ≤ 1048576) : todo ≤ 1099512676352 := by
  have h1 : (out + 1) * T ≤ 1048577 * 1048576 := Nat.mul_le_mul (by omega) hT
  omega
end

/-- within reaches' loop -/
structure RcR (w : World) (box : Obj) (wr : World) (v1 v2 : Value) (out todo : List (Int × Int)) : Prop where
  bl : Below w.heap.size w wr
  bx : wr.heap[w.heap.size]? = some box
  orow : wr.ownsRow (w.heap.size + 1) 29 1 v1 out.length (ov out)
  trow : wr.ownsRow (w.heap.size + 1) 29 1 v2 todo.length (ov todo)
  ap : ∀ k, v1.ownBlock = some k → v2.ownBlock ≠ some k
section
variable {w wr w' : World} {box : Obj} {v1 v2 : Value} {out todo : List (Int × Int)}
theorem RcR.below (h : RcR w box wr v1 v2 out todo) (hb : Below wr.heap.size wr w') : RcR w box w' v1 v2 out todo :=
  ⟨h.bl.trans (hb.mono h.bl.size), (hb.block _ (lt_of_block h.bx)).trans h.bx, rowU_keep h.orow (fun k hk => hb.block k (h.orow.lt k hk).2), rowU_keep h.trow (fun k hk => hb.block k (h.trow.lt k hk).2), h.ap⟩
theorem RcR.push (h : RcR w box wr v1 v2 out todo) (a : Int × Int) (hl : out.length ≤ 1048576) :
    ∃ R cp w', (Builtin.append_ #[36, 36] 36 #[v1, .slice (some ⟨wr.heap.size, 0, none⟩) 1 1]).run Try.prog (wr.alloc (.cells #[.int .u64 a.1] 29)) = .ok (.slice (some ⟨R, 0, none⟩) (out.length + 1) cp) w' ∧ RcR w box w' (.slice (some ⟨R, 0, none⟩) (out.length + 1) cp) v2 (out ++ [a]) todo := by
  obtain ⟨R, cp, w', hr, ho, hg, hob⟩ := push_rw (ty := 36) info_u64L Try.underlying36 rfl (by decide) (by decide) h.orow #[.int .u64 a.1] rfl (by intro u hu; simp at hu; rw [hu]; rfl) (by have := lt_of_block h.bx; omega) (by omega)
  have hov : ov out ++ (#[Value.int .u64 a.1]).toList = ov (out ++ [a]) := by simp [ov]
  rw [hov] at ho
  have h1 := lt_of_block h.bx
  refine ⟨R, cp, w', hr, below_grown h.bl hg (fun i e => by have := (h.orow.lt i e).1; omega), (hg.block _ h1 (fun e => by have := (h.orow.lt _ e.symm).1; omega)).trans h.bx, by rw [List.length_append]; exact ho, rowU_keep h.trow (fun k hk => hg.block k (h.trow.lt k hk).2 (fun e => h.ap k e.symm hk)), fun k hk hk2 => ?_⟩
  have e : R = k := by simpa [Value.ownBlock] using hk
  subst e
  rcases hob with h9 | h9
  · exact h.ap R h9 hk2
  · have := (h.trow.lt R hk2).2; omega
theorem RcR.more (h : RcR w box wr v1 v2 out todo) {sv : Value} {l : List (Int × Int)} {F : Foot} (hs : RdV F wr 1 sv l.length (ov l)) (hl : todo.length + l.length ≤ 8796093022000) :
    ∃ a c w', (Builtin.append_ #[36, 36] 36 #[v2, sv]).run Try.prog wr = .ok (.slice a (todo.length + l.length) c) w' ∧ RcR w box w' v1 (.slice a (todo.length + l.length) c) out (todo ++ l) := by
  obtain ⟨a, c, w', hr, ho, hg, hob⟩ := app_rw (ty := 36) info_u64L Try.underlying36 rfl (by decide) (by decide) h.trow hs (by intro u hu; obtain ⟨x, -, rfl⟩ := List.mem_map.1 hu; rfl) (by have := lt_of_block h.bx; omega) (by omega)
  have hov : ov todo ++ ov l = ov (todo ++ l) := by simp [ov]
  rw [hov] at ho
  have h1 := lt_of_block h.bx
  refine ⟨a, c, w', hr, below_grown h.bl hg (fun i e => by have := (h.trow.lt i e).1; omega), (hg.block _ h1 (fun e => by have := (h.trow.lt _ e.symm).1; omega)).trans h.bx, rowU_keep h.orow (fun k hk => hg.block k (h.orow.lt k hk).2 (fun e => h.ap k hk e.symm)), by rw [List.length_append]; exact ho, fun k hk hk2 => ?_⟩
  rcases hob k hk2 with h9 | h9
  · exact h.ap k hk h9
  · have := (h.orow.lt k hk).2; omega
end

def RxPost (w : World) (A : AS) (o : Int) (e : Ending) (w' : World) : Prop := ∃ v' out, e = .returned v' ∧ w'.ownsRow w.heap.size 29 1 v' out.length (ov out) ∧ (∀ u, u ∈ out.map (·.1) ↔ A.Reach o u) ∧ out.length ≤ 1048576 ∧ Below w.heap.size w w'
set_option maxHeartbeats 4000000 in
theorem r14_reaches {F : Foot} (w : World) (v : Value) (X : List LX) (A : AS) (h : TabF F w v X) (hr : RelX X A) (hok : A.Ok) (hsz : XSz X 1048576) (o : Int) :
    Calls Try.prog 60 #[.agg #[v], .int .u64 o] w (RxPost w A o) := by
  obtain ⟨ha, hc, rfl, -, -⟩ := h.row.form
  obtain ⟨n, hn⟩ : ∃ n, X.length = n := ⟨_, rfl⟩
  rw [hn] at h ⊢
  have hwf : ∀ W, Below w.heap.size w W → ∀ u, Calls Try.prog 69 #[.agg #[.slice ha n hc], .int .u64 u] W fun e w' => ∃ v', e = .returned v' ∧ w'.ownsRow W.heap.size 29 1 v' (wfL X u).length (ov (wfL X u)) ∧ Below W.heap.size W w' := fun W hW u => by
    refine r14_waitsFor W _ X (h.below hW) (by have := hsz.ln; omega) (fun x hx => by have := tot_mem hx; have := hsz.tt; omega) u
  obtain ⟨wb, hwb⟩ : ∃ wb, w.alloc (.cells #[.slice ha n hc] 51) = wb := ⟨_, rfl⟩
  have hbb : Below w.heap.size w wb := by rw [← hwb]; exact (Below.refl _ _).alloc (Nat.le_refl _) _
  have kb : wb.heap[w.heap.size]? = some (.cells #[.slice ha n hc] 51 (0, 0)) := by rw [← hwb]; exact heap_alloc_new w _
  have z0 : wb.cell? ⟨w.heap.size, 0, none⟩ = some (.slice ha n hc) := cell_of_row wb w.heap.size 0 _ _ _ kb
  obtain ⟨T, hT⟩ : ∃ T, tot X = T := ⟨_, rfl⟩
  have HWF := Lib.hid hwf
  have HWF0 := Lib.hid (hwf wb hbb o)
  have HW := Lib.hid (And.intro hbb kb)
  have HX := Lib.hid (And.intro hr (And.intro hok (And.intro hsz hT)))
  clear h hn hwf hbb kb hr hok hsz hT
  go_enter Try.func60, Try.ntmps60
  go_wp2_with (first | (refine wpList_load_row rfl _ _ rfl w.heap.size rfl _ _ (0, 0) _ HW.out.2 Try.underlying51 rfl infoT ?_) | fail)
  refine HWF0.out.mono ?_
  rintro e w1 ⟨tv, rfl, hrow1, hb1⟩
  have hR1 : RcR w (.cells #[.slice ha n hc] 51 (0, 0)) w1 (.slice none 0 0) tv [] (wfL X o) :=
    ⟨HW.out.1.trans (hb1.mono HW.out.1.size), (hb1.block _ (lt_of_block HW.out.2)).trans HW.out.2, World.ownsRow_nil _ _ _ _, rowU_mono' hrow1 (by have := lt_of_block HW.out.2; omega), fun k hk => by cases hk⟩
  obtain ⟨ta, tc, htv, -, -⟩ := (RdV.of_own (F := NoF) hrow1 (fun _ _ => noF _)).form
  obtain ⟨tn, htn⟩ : ∃ tn, (wfL X o).length = tn := ⟨_, rfl⟩
  rw [htn] at htv
  subst htv
  have H1 := Lib.hid (And.intro hR1 htn)
  clear hrow1 hb1 z0 hwb HWF0 hR1 htn
  go_wp2_with fail
  go_loopw [5, 6, 7] (fun v1 v2 iv wr => ∃ (i : Nat) (out todo : List (Int × Int)) (oa : Option Addr) (oc : Nat) (ta : Option Addr) (tc : Nat), iv = .int .i64 i ∧ v1 = .slice oa out.length oc ∧ v2 = .slice ta todo.length tc ∧ RcR w (.cells #[.slice ha n hc] 51 (0, 0)) wr (.slice oa out.length oc) (.slice ta todo.length tc) out todo ∧ RcP X A o out todo i) (fun v1 v2 iv _ => (T - slN v1) * (T + 1) + (slN v2 - (Go.RowKit.intOf iv).toNat))
  case atStart => exact ⟨0, [], wfL X o, none, 0, ta, tc, rfl, rfl, by rw [H1.out.2], by rw [H1.out.2]; exact H1.out.1, RcP.start HX.out.1 HX.out.2.1 o⟩
  case round =>
    obtain ⟨i, out, todo, oa, oc, ta, tc, rfl, rfl, rfl, hR, hP⟩ := hrel
    obtain ⟨on, hon⟩ : ∃ on, out.length = on := ⟨_, rfl⟩
    obtain ⟨tn, htn⟩ : ∃ tn, todo.length = tn := ⟨_, rfl⟩
    rw [hon, htn] at hR ⊢
    have hol : on ≤ T := by rw [← hon, ← HX.out.2.2.2]; exact hP.lim
    have hT20 : T ≤ 1048576 := by rw [← HX.out.2.2.2]; exact HX.out.2.2.1.tt
    have htl : tn ≤ 1099512676352 := by
      have h9 := hP.sz
      rw [htn, hon, HX.out.2.2.2] at h9
      exact rc_lim h9 hol hT20
    by_cases hlt : i < tn
    · have hil : i < todo.length := by rw [htn]; exact hlt
      have htr := RdV.of_own (F := NoF) hR.trow (fun _ _ => noF _)
      rw [htn] at htr
      obtain ⟨tg, toff, rfl, hco⟩ := ov_cell htr htn i hil
      have c0 := hco wr (Below.refl _ _)
      have hpe : todo[i]? = some todo[i] := List.getElem?_eq_getElem hil
      have hold := hP.old hil
      have hnew := hP.new HX.out.1 HX.out.2.1 hil
      obtain ⟨p, hp⟩ : ∃ p, todo[i] = p := ⟨_, rfl⟩
      rw [hp] at c0 hco hold hnew hpe
      obtain ⟨u, pm⟩ := p
      simp only at c0 hco hold hnew
      have hor := RdV.of_own (F := NoF) hR.orow (fun _ _ => noF _)
      have hin := r14_in wr _ out hor (by omega) u
      obtain ⟨b, hbd⟩ : ∃ b, decide (u ∈ out.map (·.1)) = b := ⟨_, rfl⟩
      rw [hbd] at hin
      have hii : (i : Int) < (tn : Int) := by omega
      have hi0 : (0 : Int) ≤ (i : Int) := by omega
      have HWJ : Hid (wrap64 ((i : Int) + 1) = ((i + 1 : Nat) : Int)) := by show _ = _; unfold wrap64; omega
      have HIN := Lib.hid hin
      have HK := Lib.hid (And.intro hR (And.intro hon (And.intro htn (And.intro hlt (And.intro hold (And.intro hnew (And.intro hol (And.intro hT20 (And.intro hco (And.intro htl (And.intro hbd hpe)))))))))))
      clear hR hP hil htr hold hnew hor hin hlt hol hT20 hp hco hbd htl hpe
      go_wp2_with fail
      clear c0
      refine HIN.out.mono ?_
      rintro e w4 ⟨rfl, hb4⟩
      have hR4 := HK.out.1.below hb4
      have c0 := HK.out.2.2.2.2.2.2.2.2.1 w4 hb4
      cases b with
      | true =>
        have H4 := Lib.hid hR4
        clear hR4 hb4 HIN c0
        go_wp2
        go_roundw
        case rel => exact ⟨i + 1, out, todo, oa, oc, _, tc, by rw [HWJ.out], by rw [HK.out.2.1], by rw [HK.out.2.2.1], by rw [HK.out.2.1, HK.out.2.2.1]; exact H4.out, HK.out.2.2.2.2.1 (of_decide_eq_true HK.out.2.2.2.2.2.2.2.2.2.2.1)⟩
        case measure =>
          rw [HWJ.out]
          have := HK.out.2.2.2.1
          simp only [slN, Go.RowKit.intOf]
          omega
      | false =>
        have hnew := HK.out.2.2.2.2.2.1 (of_decide_eq_false HK.out.2.2.2.2.2.2.2.2.2.2.1)
        have hon1 : on + 1 ≤ T := by
          have h9 := hnew.lim
          rw [List.length_append, HK.out.2.1, HX.out.2.2.2] at h9
          exact h9
        obtain ⟨R, cp, w5, hr5, hR5⟩ := hR4.push (u, pm) (by have := HK.out.2.1; have := HK.out.2.2.2.2.2.2.1; have := HK.out.2.2.2.2.2.2.2.1; omega)
        rw [HK.out.2.1] at hr5 hR5
        have HR5 := Lib.hid hr5
        have hbd5 : Below w5.heap.size w5 w5.drew := below_drewN (Below.refl _ _) 1
        have hR5d := hR5.below hbd5
        have htr5 := RdV.of_own (F := NoF) hR5d.trow (fun _ _ => noF _)
        rw [HK.out.2.2.1] at htr5
        have hil : i < todo.length := by rw [HK.out.2.2.1]; exact HK.out.2.2.2.1
        have hc5 : w5.drew.cell? ⟨tg, toff + i, none⟩ = some (.int .u64 u) := by
          obtain ⟨g', off', e, hco'⟩ := ov_cell htr5 HK.out.2.2.1 i hil
          injection e with e
          injection e with e1 e2 _
          subst e1 e2
          have h9 := hco' w5.drew (Below.refl _ _)
          have h8 : todo[i] = (u, pm) := by
            have h7 := HK.out.2.2.2.2.2.2.2.2.2.2.2
            rw [List.getElem?_eq_getElem hil] at h7
            exact Option.some.inj h7
          rw [h8] at h9
          exact h9
        have hS0 : w5.drew.cell? ⟨w.heap.size, 0, none⟩ = some (.slice ha n hc) ∧ w5.drew.cell? ⟨tg, toff + i, none⟩ = some (.int .u64 u) := ⟨cell_of_row w5.drew w.heap.size 0 _ _ _ hR5d.bx, hc5⟩
        have HC := Lib.hid hR5d
        have HN := Lib.hid (And.intro hnew hon1)
        clear hnew hon1 hr5 hR5 hbd5 hR5d htr5 hil hc5 hR4 hb4 HIN
        go_upto_region 8 with (at_builtin; refine wpList_append_eq rfl rfl HR5.out rfl rfl ?_; clear HR5)
        clear c0
        refine wp_region_U (fun W => W.cell? ⟨w.heap.size, 0, none⟩ = some (.slice ha n hc) ∧ W.cell? ⟨tg, toff + i, none⟩ = some (.int .u64 u)) [7, 8] (by kernel_rfl) ?_
        refine wpAnyU_take (i := 0) [7, 8] rfl (by as_aux_lemma => kernel_rfl) (by as_aux_lemma => kernel_rfl) (by as_aux_lemma => kernel_rfl) (by as_aux_lemma => kernel_rfl) (by as_aux_lemma => kernel_rfl) (by as_aux_lemma => kernel_rfl) (fun _ _ _ h => h) (Or.inl ⟨by rfl, (by intro W hSW; (try dsimp only at hSW); (try go_split_ands); go_simp <;> with_reducible rfl)⟩) hS0 ?_
        try simp only [Act.put, List.getElem_toArray, List.getElem_cons_succ, List.getElem_cons_zero, List.setIfInBounds_toArray, List.set_cons_zero, List.set_cons_succ]
        refine wpAnyU_take (i := 1) [6, 7, 8] rfl (by as_aux_lemma => kernel_rfl) (by as_aux_lemma => kernel_rfl) (by as_aux_lemma => kernel_rfl) (by as_aux_lemma => kernel_rfl) (by as_aux_lemma => kernel_rfl) (by as_aux_lemma => kernel_rfl) (fun _ _ _ h => h) (Or.inl ⟨by rfl, (by intro W hSW; (try dsimp only at hSW); (try go_split_ands); go_simp <;> with_reducible rfl)⟩) hS0 ?_
        try simp only [Act.put, List.getElem_toArray, List.getElem_cons_succ, List.getElem_cons_zero, List.setIfInBounds_toArray, List.set_cons_zero, List.set_cons_succ]
        refine wpAnyU_take (i := 2) [4, 5, 6, 7, 8] rfl (by as_aux_lemma => kernel_rfl) (by as_aux_lemma => kernel_rfl) (by as_aux_lemma => kernel_rfl) (by as_aux_lemma => kernel_rfl) (by as_aux_lemma => kernel_rfl) (by as_aux_lemma => kernel_rfl) (fun _ _ _ h => h) (Or.inl ⟨by rfl, (by intro W hSW; (try dsimp only at hSW); (try go_split_ands); go_simp <;> with_reducible rfl)⟩) hS0 ?_
        try simp only [Act.put, List.getElem_toArray, List.getElem_cons_succ, List.getElem_cons_zero, List.setIfInBounds_toArray, List.set_cons_zero, List.set_cons_succ]
        refine wpAnyU_take (i := 3) [4, 5, 6, 7, 8] rfl (by as_aux_lemma => kernel_rfl) (by as_aux_lemma => kernel_rfl) (by as_aux_lemma => kernel_rfl) (by as_aux_lemma => kernel_rfl) (by as_aux_lemma => kernel_rfl) (by as_aux_lemma => kernel_rfl) (fun _ _ _ h => h) (Or.inl ⟨by rfl, (by intro W hSW; (try dsimp only at hSW); (try go_split_ands); go_simp <;> with_reducible rfl)⟩) hS0 ?_
        try simp only [Act.put, List.getElem_toArray, List.getElem_cons_succ, List.getElem_cons_zero, List.setIfInBounds_toArray, List.set_cons_zero, List.set_cons_succ]
        refine wpAnyU_take (i := 4) [5, 6, 7, 8] rfl (by as_aux_lemma => kernel_rfl) (by as_aux_lemma => kernel_rfl) (by as_aux_lemma => kernel_rfl) (by as_aux_lemma => kernel_rfl) (by as_aux_lemma => kernel_rfl) (by as_aux_lemma => kernel_rfl) (fun _ _ _ h => h) (Or.inl ⟨by rfl, (by intro W hSW; (try dsimp only at hSW); (try go_split_ands); go_simp <;> with_reducible rfl)⟩) hS0 ?_
        try simp only [Act.put, List.getElem_toArray, List.getElem_cons_succ, List.getElem_cons_zero, List.setIfInBounds_toArray, List.set_cons_zero, List.set_cons_succ]
        refine wpAnyU_take (i := 5) [6, 7, 8] rfl (by as_aux_lemma => kernel_rfl) (by as_aux_lemma => kernel_rfl) (by as_aux_lemma => kernel_rfl) (by as_aux_lemma => kernel_rfl) (by as_aux_lemma => kernel_rfl) (by as_aux_lemma => kernel_rfl) (fun _ _ _ h => h) (Or.inl ⟨by rfl, (by intro W hSW; (try dsimp only at hSW); (try go_split_ands); go_simp <;> with_reducible rfl)⟩) hS0 ?_
        try simp only [Act.put, List.getElem_toArray, List.getElem_cons_succ, List.getElem_cons_zero, List.setIfInBounds_toArray, List.set_cons_zero, List.set_cons_succ]
        refine wpAnyU_one (i := 6) (by kernel_rfl) rfl (fun K hK => ?_)
        go_simp
        go_at_call 69
        (with_reducible refine (HWF.out _ HC.out.bl u).mono ?_)
        rintro e w6 ⟨sv, rfl, hrow6, hb6⟩
        have hR6 := HC.out.below hb6
        have hS6 : w6.cell? ⟨w.heap.size, 0, none⟩ = some (.slice ha n hc) ∧ w6.cell? ⟨tg, toff + i, none⟩ = some (.int .u64 u) := ⟨cell_of_row w6 w.heap.size 0 _ _ _ hR6.bx, (World.cell?_of_block (hb6.block tg (World.block_lt_of_cell? _ _ hS0.2))).trans hS0.2⟩
        obtain ⟨ln, hln⟩ : ∃ ln, (wfL X u).length = ln := ⟨_, rfl⟩
        have hlnT : ln ≤ T := by rw [← hln, ← HX.out.2.2.2]; exact wfL_len u
        obtain ⟨a7, c7, w7, hr7, hR7⟩ := hR6.more (RdV.of_own (F := NoF) hrow6 (fun _ _ => noF _)) (by rw [HK.out.2.2.1, hln]; have := HK.out.2.2.2.2.2.2.2.2.2.1; have := HK.out.2.2.2.2.2.2.2.1; omega)
        rw [HK.out.2.2.1, hln] at hr7 hR7
        have HR7 := Lib.hid hr7
        have H7 := Lib.hid (And.intro hR7 (And.intro hln hlnT))
        clear hr7 hR7 hln hlnT hR6 hrow6 hb6 HC
        refine hK.out _ _ (fun _ => hS6) (fun _ => ?_)
        clear hK K
        try simp only [Act.put, List.getElem_toArray, List.getElem_cons_succ, List.getElem_cons_zero, List.setIfInBounds_toArray, List.set_cons_zero, List.set_cons_succ]
        refine wpAnyU_one (i := 7) (by kernel_rfl) rfl (fun K hK => ?_)
        refine step_append_eq14 rfl rfl HR7.out rfl rfl ?_
        refine hK.out _ _ (fun h => absurd h (by decide)) (fun _ => ?_)
        clear hK K
        try simp only [Act.put, List.getElem_toArray, List.getElem_cons_succ, List.getElem_cons_zero, List.setIfInBounds_toArray, List.set_cons_zero, List.set_cons_succ]
        refine wpAnyU_one (i := 8) (by kernel_rfl) rfl (fun K hK => ?_)
        go_simp
        refine hK.out _ _ (fun h => absurd h (by decide)) (fun _ => ?_)
        clear hK K
        try simp only [Act.put, List.getElem_toArray, List.getElem_cons_succ, List.getElem_cons_zero, List.setIfInBounds_toArray, List.set_cons_zero, List.set_cons_succ]
        refine wpAnyU_done (by kernel_rfl) ?_ _
        clear hS0 hS6
        go_wp2
        go_roundw
        case rel => exact ⟨i + 1, out ++ [(u, pm)], todo ++ wfL X u, _, cp, a7, c7, by rw [HWJ.out], by rw [List.length_append, HK.out.2.1]; rfl, by rw [List.length_append, HK.out.2.2.1, H7.out.2.1], by rw [List.length_append, List.length_append, HK.out.2.1, HK.out.2.2.1, H7.out.2.1]; exact H7.out.1, HN.out.1⟩
        case measure =>
          rw [HWJ.out]
          simp only [slN, Go.RowKit.intOf]
          exact rc_meas HN.out.2 H7.out.2.2 HK.out.2.2.2.1
    · have hii : ¬ (i : Int) < (tn : Int) := by omega
      have hd := hP.done (by rw [htn]; omega)
      have HF := Lib.hid (And.intro hR (And.intro hon (And.intro hd (And.intro hol hT20))))
      clear hR hP hd hlt hol hT20 htl
      go_wp2
      go_ret
      exact ⟨_, out, rfl, by have h9 := HF.out.1.orow; rw [HF.out.2.1] at h9 ⊢; exact rowU_mono' h9 (Nat.le_succ _), HF.out.2.2.1, by have := HF.out.2.1; have := HF.out.2.2.2.1; have := HF.out.2.2.2.2; omega, HF.out.1.bl⟩
end Mun
