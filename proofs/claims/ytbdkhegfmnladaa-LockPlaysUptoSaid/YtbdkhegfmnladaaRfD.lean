/- The reference's Held, Waits. -/
import Derived.Test.YtbdkhegfmnladaaRfC
set_option maxRecDepth 100000
set_option linter.unusedVariables false
set_option linter.unusedSimpArgs false
namespace Mun
open Go Go.RowKit
open Go.Proofs

def heldR (X : List LX) (o : Int) : List (ByteArray × Int) := (X.map fun x => (x.name, (klook x.hs o).getD 0)).filter fun p => decide (0 < p.2)
theorem heldR_take {X : List LX} {o : Int} {i : Nat} (hi : i < X.length) : heldR (X.take (i + 1)) o = heldR (X.take i) o ++ if 0 < (klook X[i].hs o).getD 0 then [(X[i].name, (klook X[i].hs o).getD 0)] else [] := by
  unfold heldR
  rw [List.take_add_one, List.getElem?_eq_getElem hi, Option.toList_some, List.map_append, List.filter_append, List.map_singleton]
  congr 1
  by_cases h : 0 < (klook X[i].hs o).getD 0
  · rw [if_pos h, List.filter_cons_of_pos (by simpa using h)]; rfl
  · rw [if_neg h, List.filter_cons_of_neg (by simpa using h)]; rfl
theorem heldR_len (X : List LX) (o : Int) : (heldR X o).length ≤ X.length := by
  unfold heldR
  exact Nat.le_trans (List.length_filter_le _ _) (by simp)
def nsV (l : List (ByteArray × Int)) : List Value := l.map fun p => .string p.1
def msV (l : List (ByteArray × Int)) : List Value := l.map fun p => .int .i64 p.2

/-- within Held's loop -/
structure HdR (w : World) (box : Obj) (wr : World) (nv mv : Value) (l : List (ByteArray × Int)) : Prop where
  bl : Below w.heap.size w wr
  bx : wr.heap[w.heap.size]? = some box
  nr : wr.ownsRow (w.heap.size + 1) 9 1 nv l.length (nsV l)
  mr : wr.ownsRow (w.heap.size + 1) 3 1 mv l.length (msV l)
theorem HdR.below {w wr w' : World} {box : Obj} {nv mv : Value} {l : List (ByteArray × Int)} (h : HdR w box wr nv mv l) (hb : Below wr.heap.size wr w') : HdR w box w' nv mv l :=
  ⟨h.bl.trans (hb.mono h.bl.size), (hb.block _ (lt_of_block h.bx)).trans h.bx, rowU_keep h.nr (fun k hk => hb.block k (h.nr.lt k hk).2), rowU_keep h.mr (fun k hk => hb.block k (h.mr.lt k hk).2)⟩
/-- one more -/
theorem HdR.push {w wr : World} {box : Obj} {nv mv : Value} {l : List (ByteArray × Int)} (h : HdR w box wr nv mv l) (s : ByteArray) (m : Int) (hl : l.length < 8796093022000) :
    ∃ R cp w5 R2 cp2 w6, (Builtin.append_ #[81, 81] 81 #[nv, .slice (some ⟨wr.heap.size, 0, none⟩) 1 1]).run Try.prog (wr.alloc (.cells #[.string s] 9)) = .ok (.slice (some ⟨R, 0, none⟩) (l.length + 1) cp) w5 ∧
      (Builtin.append_ #[107, 107] 107 #[mv, .slice (some ⟨w5.heap.size, 0, none⟩) 1 1]).run Try.prog (w5.alloc (.cells #[.int .i64 m] 3)) = .ok (.slice (some ⟨R2, 0, none⟩) (l.length + 1) cp2) w6 ∧
      HdR w box w6 (.slice (some ⟨R, 0, none⟩) (l.length + 1) cp) (.slice (some ⟨R2, 0, none⟩) (l.length + 1) cp2) (l ++ [(s, m)]) := by
  have hbs := lt_of_block h.bx
  obtain ⟨R, cp, w5, hr5, hrow5, y1, y2, y3, y4, y5, y6⟩ := push_g (ty := 81) info_strL Try.underlying81 rfl (by decide) (.string s) rfl h.nr (by omega) (by omega)
  have hb5 := below_push h.bl h.nr (Nat.le_succ _) y1 y2 y3 y4 y5
  have hm5 : w5.ownsRow (w.heap.size + 1) 3 1 mv l.length (msV l) := rowU_keep h.mr (fun k hk => y5 k (h.mr.lt k hk).2 (fun e => row_apart h.mr h.nr (by decide) k hk e))
  have hx5 : w5.heap[w.heap.size]? = some box := (y5 _ hbs (fun e => by have := (h.nr.lt _ e).1; omega)).trans h.bx
  obtain ⟨R2, cp2, w6, hr6, hrow6, x1, x2, x3, x4, x5, x6⟩ := push_g (ty := 107) info_intL Try.underlying107 rfl (by decide) (.int .i64 m) rfl hm5 (by omega) (by omega)
  have hb6 := below_push hb5 hm5 (Nat.le_succ _) x1 x2 x3 x4 x5
  have hn6 := rowU_keep hrow5 (fun k hk => x5 k (hrow5.lt k hk).2 (fun e => row_apart hrow5 hm5 (by decide) k hk e))
  refine ⟨R, cp, w5, R2, cp2, w6, hr5, hr6, hb6, (x5 _ (lt_of_block hx5) (fun e => by have := (hm5.lt _ e).1; omega)).trans hx5, ?_, ?_⟩
  · have e : nsV (l ++ [(s, m)]) = nsV l ++ [.string s] := by simp [nsV]
    rw [e, List.length_append]; exact hn6
  · have e : msV (l ++ [(s, m)]) = msV l ++ [.int .i64 m] := by simp [msV]
    rw [e, List.length_append]; exact hrow6

set_option maxHeartbeats 2000000 in
theorem r14_held {F : Foot} (w : World) (v : Value) (X : List LX) (h : TabF F w v X) (hl : X.length ≤ 8796093021999) (hh : ∀ x ∈ X, x.hs.length ≤ 8796093022200) (o : Int) :
    Calls Try.prog 48 #[.agg #[v], .int .u64 o] w fun e w' => ∃ a b, e = .returned (.tuple #[a, b]) ∧ w'.ownsRow w.heap.size 9 1 a (heldR X o).length (nsV (heldR X o)) ∧ w'.ownsRow w.heap.size 3 1 b (heldR X o).length (msV (heldR X o)) ∧ Below w.heap.size w w' := by
  obtain ⟨ha, hc, rfl, -, -⟩ := h.row.form
  obtain ⟨n, hn⟩ : ∃ n, X.length = n := ⟨_, rfl⟩
  rw [hn] at h ⊢
  obtain ⟨wb, hwb⟩ : ∃ wb, w.alloc (.cells #[.slice ha n hc] 51) = wb := ⟨_, rfl⟩
  have hbb : Below w.heap.size w wb := by rw [← hwb]; exact (Below.refl _ _).alloc (Nat.le_refl _) _
  have kb : wb.heap[w.heap.size]? = some (.cells #[.slice ha n hc] 51 (0, 0)) := by rw [← hwb]; exact heap_alloc_new w _
  have HX := Lib.hid (And.intro h (And.intro hn (And.intro hl hh)))
  have HW := Lib.hid (And.intro hbb kb)
  clear h hn hl hbb kb hh
  go_enter Try.func48, Try.ntmps48
  go_wp2_with fail
  go_loopw [6, 7, 8] (fun nv mv iv wr => ∃ (i : Nat) (l : List (ByteArray × Int)) (na : Option Addr) (nc : Nat) (ma : Option Addr) (mc : Nat), iv = .int .i64 i ∧ i ≤ n ∧ l = heldR (X.take i) o ∧ nv = .slice na l.length nc ∧ mv = .slice ma l.length mc ∧ HdR w (.cells #[.slice ha n hc] 51 (0, 0)) wr (.slice na l.length nc) (.slice ma l.length mc) l) (fun _ _ iv _ => n - (Go.RowKit.intOf iv).toNat)
  case atStart => exact ⟨0, [], none, 0, none, 0, rfl, Nat.zero_le _, by simp [heldR], rfl, rfl, by first | exact ⟨HW.out.1, HW.out.2, World.ownsRow_nil _ _ _ _, World.ownsRow_nil _ _ _ _⟩ | (rw [hwb]; exact ⟨HW.out.1, HW.out.2, World.ownsRow_nil _ _ _ _, World.ownsRow_nil _ _ _ _⟩)⟩
  case round =>
    obtain ⟨i, l, na, nc, ma, mc, rfl, hin, hle, rfl, rfl, hR⟩ := hrel
    have z0 : wr.cell? ⟨w.heap.size, 0, none⟩ = some (.slice ha n hc) := cell_of_row wr w.heap.size 0 _ _ _ hR.bx
    obtain ⟨ln, hln⟩ : ∃ ln, l.length = ln := ⟨_, rfl⟩
    rw [hln] at hR ⊢
    by_cases hlt : i < n
    · have hil : i < X.length := by rw [HX.out.2.1]; exact hlt
      obtain ⟨g, off, rfl, hco⟩ := HX.out.1.at_ HX.out.2.1 i hil
      have htk := heldR_take (o := o) hil
      rw [← hle] at htk
      have hxm := List.getElem_mem hil
      obtain ⟨x, hx⟩ : ∃ x, X[i] = x := ⟨_, rfl⟩
      rw [hx] at hco htk hxm
      obtain ⟨c0, c1, c2⟩ := hco wr hR.bl
      have hmo := r14_mode wr x.name x.hv x.qv x.hs ((HX.out.1.hr x hxm).below hR.bl) (HX.out.2.2.2 x hxm) o
      obtain ⟨m, hm⟩ : ∃ m, (klook x.hs o).getD 0 = m := ⟨_, rfl⟩
      rw [hm] at hmo htk
      obtain ⟨xs, hxs⟩ : ∃ xs, x.name = xs := ⟨_, rfl⟩
      obtain ⟨xh, hxh⟩ : ∃ xh, x.hv = xh := ⟨_, rfl⟩
      obtain ⟨xq, hxq⟩ : ∃ xq, x.qv = xq := ⟨_, rfl⟩
      rw [hxs] at c0 hmo htk hco
      obtain ⟨xha, xhc, hxf, -, -⟩ := (HX.out.1.hr x hxm).form
      obtain ⟨xqa, xqc, hxg, -, -⟩ := (HX.out.1.qr x hxm).form
      obtain ⟨xhn, hxhn⟩ : ∃ xhn, x.hs.length = xhn := ⟨_, rfl⟩
      obtain ⟨xqn, hxqn⟩ : ∃ xqn, x.qs.length = xqn := ⟨_, rfl⟩
      rw [hxf, hxhn] at c1 hmo
      rw [hxg, hxqn] at c2 hmo
      have hii : (i : Int) < (n : Int) := by omega
      have hi0 : (0 : Int) ≤ (i : Int) := by omega
      have HMO := Lib.hid hmo
      have HK := Lib.hid (And.intro hR (And.intro hlt (And.intro hle (And.intro htk (And.intro hln hco)))))
      have HLN : Hid (ln ≤ i) := by show _ ≤ _; have h9 := heldR_len (X.take i) o; rw [← hle, hln, List.length_take] at h9; omega
      have HWJ : Hid (wrap64 ((i : Int) + 1) = ((i + 1 : Nat) : Int)) := by show _ = _; have := HX.out.2.1; have := HX.out.2.2.1; unfold wrap64; omega
      clear hmo hR hlt hle htk hln hin hm hxs hxf hxg hxhn hxqn hxh hxq hx hxm hil hco
      go_wp2_with fail
      clear c0 c1 c2 z0
      refine HMO.out.mono ?_
      rintro e w4 ⟨rfl, hb4⟩
      have hR4 := HK.out.1.below hb4
      have z0 : w4.cell? ⟨w.heap.size, 0, none⟩ = some (.slice (some ⟨g, off, none⟩) n hc) := cell_of_row w4 w.heap.size 0 _ _ _ hR4.bx
      obtain ⟨c0, -, -⟩ := HK.out.2.2.2.2.2 w4 hR4.bl
      by_cases hm0 : m > 0
      · have hpu := hR4
        rw [← HK.out.2.2.2.2.1] at hpu
        obtain ⟨R, cp, w5, R2, cp2, w6, hr5, hr6, hR6⟩ := hpu.push xs m (by have := HLN.out; have := HK.out.2.2.2.2.1; have := HX.out.2.1; have := HX.out.2.2.1; have := HK.out.2.1; omega)
        rw [HK.out.2.2.2.2.1] at hr5 hr6
        have HR5 := Lib.hid hr5
        have HR6 := Lib.hid hr6
        have H6 := Lib.hid hR6
        clear hpu hr5 hr6 hR6 hR4 hb4 HMO
        go_wp2_with (first | (at_builtin; refine wpList_append_eq rfl rfl HR5.out rfl rfl ?_; clear HR5) | (at_builtin; refine wpList_append_eq rfl rfl HR6.out rfl rfl ?_; clear HR6))
        go_roundw
        case rel => exact ⟨i + 1, l ++ [(xs, m)], _, cp, _, cp2, by rw [HWJ.out], HK.out.2.1, by rw [HK.out.2.2.2.1, if_pos hm0], by rw [List.length_append, HK.out.2.2.2.2.1]; rfl, by rw [List.length_append, HK.out.2.2.2.2.1]; rfl, by have h9 := H6.out; rw [List.length_append]; exact h9⟩
        case measure => exact meas_up HWJ.out HK.out.2.1
      · have H4 := Lib.hid hR4
        clear hR4 hb4 HMO
        go_wp2
        go_roundw
        case rel => exact ⟨i + 1, l, na, nc, ma, mc, by rw [HWJ.out], HK.out.2.1, by rw [HK.out.2.2.2.1, if_neg (by omega), List.append_nil], by rw [HK.out.2.2.2.2.1], by rw [HK.out.2.2.2.2.1], by rw [HK.out.2.2.2.2.1]; exact H4.out⟩
        case measure => exact meas_up HWJ.out HK.out.2.1
    · have hii : ¬ (i : Int) < (n : Int) := by omega
      have hfin : Hid (l = heldR X o) := by
        show _ = _
        rw [hle, List.take_of_length_le (by rw [HX.out.2.1]; omega)]
      have HF := Lib.hid (And.intro hR hln)
      clear hR hlt hin hle hln
      go_wp2
      refine bodyPost_ret (by simp [results, Try.results48, go_sem]; try rfl) rfl ?_
      refine ⟨_, _, rfl, ?_, ?_, HF.out.1.bl⟩
      · have h9 := HF.out.1.nr
        rw [← hfin.out]
        rw [HF.out.2] at h9
        rw [HF.out.2]
        exact rowU_mono' h9 (Nat.le_succ _)
      · have h9 := HF.out.1.mr
        rw [← hfin.out]
        rw [HF.out.2] at h9
        rw [HF.out.2]
        exact rowU_mono' h9 (Nat.le_succ _)
end Mun
