/- The reference's Queue, Held, Waits. -/
import Derived.Test.YtbdkhegfmnladaaRfB
import Derived.Test.YtbdkhegfmnladaaTbU
import Derived.Test.YtbdkhegfmnladaaMgA
set_option maxRecDepth 100000
set_option linter.unusedVariables false
set_option linter.unusedSimpArgs false
namespace Mun
open Go Go.RowKit
open Go.Proofs

/-- one element more, of one cell -/
theorem push_g {e t ty : TypeId} {z : Value} {bytes : Nat} (hinfo : (Try.prog.info? e).map (fun i => (i.zero, i.size, i.bytes)) = some (some z, 1, bytes)) (ht : Try.prog.underlying t = some (.slice e)) (hz : z.cells.size = 1) (hpos : 0 < bytes)
    {w : World} {B n : Nat} {v : Value} {xs : List Value} (u : Value) (hu : u.oneCell' = true) (h : w.ownsRow B e 1 v n xs) (hB : B ≤ w.heap.size) (hl : (n + 1) * bytes ≤ 140737488355328) :
    ∃ R cp w', (Builtin.append_ #[t, t] ty #[v, .slice (some ⟨w.heap.size, 0, none⟩) 1 1]).run Try.prog (w.alloc (.cells #[u] e)) = .ok (.slice (some ⟨R, 0, none⟩) (n + 1) cp) w' ∧
      w'.ownsRow B e 1 (.slice (some ⟨R, 0, none⟩) (n + 1) cp) (n + 1) (xs ++ [u]) ∧ w.heap.size ≤ w'.heap.size ∧ w'.os = w.os ∧ w'.tape = w.tape ∧ w'.output = w.output ∧ (∀ k, k < w.heap.size → v.ownBlock ≠ some k → w'.heap[k]? = w.heap[k]?) ∧ (v.ownBlock = some R ∨ w.heap.size ≤ R) := by
  obtain ⟨i, hi, hzz, h1, h2⟩ := info_of hinfo
  have hsrc : RdV (fun _ => False) (w.alloc (.cells #[u] e)) 1 (.slice (some ⟨w.heap.size, 0, none⟩) 1 1) 1 [u] :=
    ⟨rfl, _, _, rfl, Nat.le_refl _, by unfold maxLen; omega, by simp, fun _ => ⟨w.heap.size, 0, _, _, (0, 0), rfl, fun h => h, heap_alloc_new w _, by simp⟩⟩
  obtain ⟨v', w', hr, ho, hg, hob, hnil⟩ := run_append_rd (P := Try.prog) (base := B) (ty := ty) ht hi hzz h1 h2 hz (by decide) (World.ownsRow.alloc h _) hsrc (by intro x hx; simp only [List.mem_cons, List.not_mem_nil, or_false] at hx; subst hx; exact hu) hl hpos (by simp; omega)
  rcases ho.2 with ⟨rfl, h0⟩ | ⟨R, cp, cur, rfl, hb, hR, hrest⟩
  · exact absurd (hnil.1 rfl).2 (by omega)
  · refine ⟨R, cp, w', hr, ho, ?_⟩
    obtain ⟨g1, g2, g3, g4, g5⟩ := hg
    refine ⟨by have h9 := g4; rw [World.size_alloc] at h9; omega, g1, g2, g3, fun k hk hne => ?_, ?_⟩
    · rw [g5 k (by rw [World.size_alloc]; omega) (Ne.symm hne), heap_alloc_old _ _ hk]
    · rcases hob with e | e
      · exact .inl e.symm
      · simp only [Value.ownBlock, Option.some.injEq, World.size_alloc] at e
        exact .inr (by omega)
theorem below_push {w wr w' : World} {B : Nat} {e : TypeId} {size n : Nat} {v : Value} {xs : List Value} (hb : Below w.heap.size w wr) (h : wr.ownsRow B e size v n xs) (hB : w.heap.size ≤ B) (h1 : wr.heap.size ≤ w'.heap.size) (h2 : w'.os = wr.os) (h3 : w'.tape = wr.tape) (h4 : w'.output = wr.output) (h5 : ∀ k, k < wr.heap.size → v.ownBlock ≠ some k → w'.heap[k]? = wr.heap[k]?) : Below w.heap.size w w' :=
  ⟨h2.trans hb.os, h3.trans hb.tape, h4.trans hb.output, Nat.le_trans hb.size h1, fun k hk => (h5 k (Nat.lt_of_lt_of_le hk hb.size) (fun e => by have := (h.lt k e).1; omega)).trans (hb.block k hk)⟩
theorem info_strL : (Try.prog.info? 9).map (fun i => (i.zero, i.size, i.bytes)) = some (some (.string ⟨#[]⟩), 1, 16) := by kernel_rfl
theorem info_intL : (Try.prog.info? 3).map (fun i => (i.zero, i.size, i.bytes)) = some (some (.int .i64 0), 1, 8) := by kernel_rfl

theorem infoT : (Try.prog.info? 51).map (·.size) = some 1 := by kernel_rfl
/-- who waits at a name -/
def qsOf (X : List LX) (s : ByteArray) : List (Int × Int) := ((X[idxX X s]?).map (·.qs)).getD []
theorem ov_take {l : List (Int × Int)} {i : Nat} (hi : i < l.length) : ov (l.take (i + 1)) = ov (l.take i) ++ [.int .u64 l[i].1] := by
  rw [List.take_add_one, List.getElem?_eq_getElem hi, Option.toList_some, ov_snoc]

set_option maxHeartbeats 2000000 in
theorem r14_queue {F : Foot} (w : World) (v : Value) (X : List LX) (h : TabF F w v X) (hl : X.length ≤ 8796093022200) (s : ByteArray) (hq : (qsOf X s).length ≤ 8796093022199) :
    Calls Try.prog 50 #[.agg #[v], .string s] w fun e w' => ∃ v', e = .returned v' ∧ w'.ownsRow w.heap.size 29 1 v' (qsOf X s).length (ov (qsOf X s)) ∧ Below w.heap.size w w' := by
  obtain ⟨ha, hc, rfl, -, -⟩ := h.row.form
  obtain ⟨n, hn⟩ : ∃ n, X.length = n := ⟨_, rfl⟩
  rw [hn] at h ⊢
  obtain ⟨wb, hwb⟩ : ∃ wb, w.alloc (.cells #[.slice ha n hc] 51) = wb := ⟨_, rfl⟩
  have hbb : Below w.heap.size w wb := by rw [← hwb]; exact (Below.refl _ _).alloc (Nat.le_refl _) _
  have kb : wb.heap[w.heap.size]? = some (.cells #[.slice ha n hc] 51 (0, 0)) := by rw [← hwb]; exact heap_alloc_new w _
  have hfi := r14_find wb (.slice ha n hc) X (h.below hbb) hl s
  have HFI := Lib.hid hfi
  have z0 : wb.cell? ⟨w.heap.size, 0, none⟩ = some (.slice ha n hc) := cell_of_row wb w.heap.size 0 _ _ _ kb
  have hsz : w.heap.size < wb.heap.size := lt_of_block kb
  have HX := Lib.hid (And.intro h (And.intro hn (And.intro hl (And.intro hbb (And.intro kb (And.intro hq hsz))))))
  obtain ⟨fi, hfx⟩ : ∃ fi, findP X s = fi := ⟨_, rfl⟩
  rw [hfx] at HFI
  have HFX := Lib.hid hfx
  clear h hn hl hbb kb hfi hq hfx hsz
  go_enter Try.func50, Try.ntmps50
  go_wp2_with (first | (refine wpList_load_row rfl _ _ rfl w.heap.size rfl _ _ (0, 0) _ HX.out.2.2.2.2.1 Try.underlying51 rfl infoT ?_) | fail)
  refine HFI.out.mono ?_
  rintro e w4 ⟨rfl, hb4⟩
  have hb4w := HX.out.2.2.2.1.trans (hb4.mono HX.out.2.2.2.1.size)
  have k4 := (hb4.block _ (lt_of_block HX.out.2.2.2.2.1)).trans HX.out.2.2.2.2.1
  have H4 := Lib.hid (And.intro hb4w k4)
  clear hb4 HFI z0 hb4w k4
  by_cases hi : idxX X s < X.length
  · obtain ⟨x, hx, hxn⟩ := idxX_lt hi
    obtain ⟨k, hk⟩ : ∃ k, idxX X s = k := ⟨_, rfl⟩
    have hfk : fi = (k : Int) := by rw [← HFX.out]; unfold findP; rw [if_pos hi, hk]
    subst hfk
    rw [hk] at hx hi
    have hqs : qsOf X s = x.qs := by unfold qsOf; rw [hk, hx]; rfl
    obtain ⟨hil, hxe⟩ := List.getElem?_eq_some_iff.1 hx
    obtain ⟨g, off, rfl, hco⟩ := HX.out.1.at_ HX.out.2.1 k hil
    rw [hxe] at hco
    have hga := HX.out.1.qr x (by rw [← hxe]; exact List.getElem_mem hil)
    obtain ⟨qa, qc, hqv, -, -⟩ := hga.form
    rw [hqv] at hga
    rw [hqv] at hco
    obtain ⟨qn, hqn⟩ : ∃ qn, x.qs.length = qn := ⟨_, rfl⟩
    rw [hqn] at hga hco
    have HQS := Lib.hid hqs
    have hkk : (k : Int) < (n : Int) := by have := HX.out.2.1; omega
    have hk0 : (0 : Int) ≤ (k : Int) := by omega
    have hkg : ((k : Int) ≥ 0) := by omega
    have HG := Lib.hid (And.intro hco (And.intro hga (And.intro hqn (by have := HX.out.2.2.2.2.2.1; rw [hqs, hqn] at this; exact this : qn ≤ 8796093022199))))
    clear hco hga hqn hqv hxe hil hx hxn hk hi hqs HFX
    go_wp2_with fail
    go_loopw [6, 7] (fun ov_ iv wr => ∃ (i : Nat) (oa : Option Addr) (oc : Nat), iv = .int .i64 i ∧ ov_ = .slice oa i oc ∧ i ≤ qn ∧ Below w.heap.size w wr ∧ wr.heap[w.heap.size]? = some (.cells #[.slice (some ⟨g, off, none⟩) n hc] 51 (0, 0)) ∧ wr.ownsRow (w.heap.size + 1) 29 1 (.slice oa i oc) i (ov (x.qs.take i))) (fun _ iv _ => qn - (Go.RowKit.intOf iv).toNat)
    case atStart => exact ⟨0, none, 0, rfl, rfl, Nat.zero_le _, H4.out.1, H4.out.2, World.ownsRow_nil _ _ _ _⟩
    case round =>
      obtain ⟨i, oa, oc, rfl, rfl, hiq, hbr, hkr, hrow⟩ := hrel
      have z0 : wr.cell? ⟨w.heap.size, 0, none⟩ = some (.slice (some ⟨g, off, none⟩) n hc) := cell_of_row wr w.heap.size 0 _ _ _ hkr
      obtain ⟨-, -, z2⟩ := HG.out.1 wr hbr
      by_cases hlt : i < qn
      · have hil : i < x.qs.length := by rw [HG.out.2.2.1]; exact hlt
        obtain ⟨qg, qo, rfl, hqo⟩ := HG.out.2.1.at_ HG.out.2.2.1 i hil
        obtain ⟨c0, -⟩ := hqo wr hbr
        obtain ⟨u, hu⟩ : ∃ u, x.qs[i].1 = u := ⟨_, rfl⟩
        rw [hu] at c0
        have hii : (i : Int) < (qn : Int) := by omega
        have hi0 : (0 : Int) ≤ (i : Int) := by omega
        have HWJ : Hid (wrap64 ((i : Int) + 1) = ((i + 1 : Nat) : Int)) := by show _ = _; have := HG.out.2.2.2; unfold wrap64; omega
        obtain ⟨R, cp, w6, hr6, hrow6, y1, y2, y3, y4, y5, y6⟩ := push_g (ty := 36) info_u64L Try.underlying36 rfl (by decide) (.int .u64 u) rfl hrow (by have := lt_of_block hkr; omega) (by have := HG.out.2.2.2; omega)
        have htk := ov_take hil
        rw [hu] at htk
        rw [← htk] at hrow6
        have HR6 := Lib.hid hr6
        have H6 : Hid (Below w.heap.size w w6 ∧ w6.heap[w.heap.size]? = some (.cells #[.slice (some ⟨g, off, none⟩) n hc] 51 (0, 0)) ∧ w6.ownsRow (w.heap.size + 1) 29 1 (.slice (some ⟨R, 0, none⟩) (i + 1) cp) (i + 1) (ov (x.qs.take (i + 1)))) :=
          ⟨below_push hbr hrow (Nat.le_succ _) y1 y2 y3 y4 y5, (y5 _ (lt_of_block hkr) (fun e => by have := (hrow.lt _ e).1; omega)).trans hkr, hrow6⟩
        have HLT := Lib.hid hlt
        clear hr6 hrow6 y1 y2 y3 y4 y5 y6 htk hlt hiq hbr hkr hrow hqo hil hu
        go_wp2_with (at_builtin; refine wpList_append_eq rfl rfl HR6.out rfl rfl ?_; clear HR6)
        go_roundw
        case rel => exact ⟨i + 1, _, cp, by rw [HWJ.out], rfl, HLT.out, H6.out⟩
        case measure => exact meas_up HWJ.out HLT.out
      · have hii : ¬ (i : Int) < (qn : Int) := by omega
        have hin : i = qn := by omega
        subst hin
        have HF := Lib.hid (And.intro hbr hrow)
        clear hbr hkr hrow hlt hiq
        go_wp2
        go_ret
        refine ⟨_, rfl, ?_, HF.out.1⟩
        rw [HQS.out]
        have h9 := HF.out.2
        rw [List.take_of_length_le (by rw [HG.out.2.2.1]; exact Nat.le_refl _)] at h9
        rw [HG.out.2.2.1]
        exact rowU_mono' h9 (Nat.le_succ _)
  · have hfk : fi = -1 := by rw [← HFX.out]; unfold findP; rw [if_neg hi]
    subst hfk
    have hqs : Hid (qsOf X s = []) := by
      show _ = _
      unfold qsOf
      rw [List.getElem?_eq_none (by omega)]; rfl
    clear hi HFX
    go_wp2
    go_ret
    exact ⟨_, rfl, by rw [hqs.out]; exact World.ownsRow_nil _ _ _ _, H4.out.1⟩
end Mun
