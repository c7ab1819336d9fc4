/- Contracts of a pool: clone; New. -/
import Derived.Test.YtjfepmohoijalaaPoolM
set_option maxRecDepth 100000
set_option linter.unusedVariables false
set_option linter.unusedSimpArgs false
namespace Mun
open Go Go.RowKit
open Go.Proofs

theorem pclone {F : Foot} (w : World) (v : Value) (l : List UInt8) (hv : RdB F w v l) (hl : l.length ≤ 140737488355328) :
    Calls Try.prog 18 #[v] w fun e w' => e = .returned (.slice (some ⟨w.heap.size, 0, none⟩) l.length l.length) ∧ w.alloc (bobj l) = w' := by
  obtain ⟨a, n, c, rfl, HN, hlc, hcm⟩ := hv.formN
  have hmk := make_bytes0 l.length hl
  have hcp := copied_bytes (ty := 31) hv hl
  rw [← HN.out] at hmk hcp ⊢
  have HR := Lib.hid hcp
  clear hcp hv
  go_enter Try.func18, Try.ntmps18
  go_wp2_with (at_builtin; refine wpList_append_eq rfl rfl HR.out rfl rfl ?_; clear HR)
  go_ret
  exact ⟨rfl, rfl⟩

def fv0 : FV := (⟨0, [], 0, false, false⟩, .slice none 0 0)
def fv1 : FV := (FM.none, .slice none 0 0)
def PM.new (n : Nat) : PM := ⟨List.replicate n FM.none, [], 0⟩

theorem info_fr : (Try.prog.info? 58).map (fun i => (i.zero, i.size, i.bytes)) = some (some (.agg #[.int .i64 0, .slice none 0 0, .int .i64 0, .bool false, .bool false]), 5, 48) := by kernel_rfl

theorem madeCells_fr (n : Nat) : madeCells (Value.agg #[.int .i64 0, .slice none 0 0, .int .i64 0, .bool false, .bool false]).cells (n * 5) = (fcells (List.replicate n fv0)).toArray := by
  have hc : (Value.agg #[.int .i64 0, .slice none 0 0, .int .i64 0, .bool false, .bool false]).cells = (f5 fv0).toArray := rfl
  rw [hc]
  apply Array.ext
  · rw [size_madeCells]; simp only [List.size_toArray, fcells_len, List.length_replicate]; omega
  · intro i h1 h2
    rw [size_madeCells] at h1
    have hq : i = 5 * (i / 5) + i % 5 := by omega
    have h5 : i % 5 < 5 := by omega
    have hg := fcells_get (List.replicate n fv0) (i / 5) (i % 5) fv0 (by rw [List.getElem?_replicate, if_pos (by omega)]) h5
    rw [← hq] at hg
    have hL : (fcells (List.replicate n fv0)).toArray[i]? = (f5 fv0)[i % 5]? := by rw [List.getElem?_toArray]; exact hg
    rw [Array.getElem?_eq_getElem h2, List.getElem?_eq_getElem (by rw [f5_len]; exact h5)] at hL
    injection hL with hL
    rw [hL]
    simp only [madeCells, Array.getElem_map, Array.getElem_range, List.size_toArray, f5_len]
    rw [getElem!_pos _ _ (by simp only [List.size_toArray, f5_len]; exact h5)]
    simp

theorem make_frames (n : Nat) (hn : n ≤ 1024) (w : World) :
    (Instr.makeSlice 49 (.int .i64 n) (.int .i64 n)).run Try.prog w = .ok (.slice (some ⟨w.heap.size, 0, none⟩) n n) (w.alloc (.cells (fcells (List.replicate n fv0)).toArray 58)) := by
  obtain ⟨i, hi, hz, h1, h2⟩ := info_of info_fr
  have hr := run_make (P := Try.prog) w _ _ i _ Try.underlying49 hi hz .i64 .i64 n n (by omega) (by omega) (by rw [h2]; omega) (by omega)
  rw [hr, h1]
  simp only [Int.toNat_natCast]
  rw [madeCells_fr]

theorem rep_set (n k : Nat) (h : k < n) : (List.replicate k fv1 ++ List.replicate (n - k) fv0).set k fv1 = List.replicate (k + 1) fv1 ++ List.replicate (n - (k + 1)) fv0 := by
  obtain ⟨m, rfl⟩ : ∃ m, n = k + 1 + m := ⟨n - k - 1, by omega⟩
  rw [show k + 1 + m - k = m + 1 by omega, show k + 1 + m - (k + 1) = m by omega]
  rw [List.set_append_right _ _ (by simp), List.length_replicate, Nat.sub_self, List.replicate_succ, List.set_cons_zero, List.replicate_succ']
  simp

def newPLV (g n : Nat) : PLV := ⟨g, g + 1, g + 2, List.replicate n fv1, [], []⟩
def NewOut (w : World) (D L n : Nat) (e : Ending) (w' : World) : Prop :=
  e = .returned (.tuple #[.pointer (some ⟨w.heap.size + 3, 0, none⟩), .int .i64 0]) ∧ (∀ F, PRep w' (w.heap.size + 3) D L F (PM.new n) (newPLV w.heap.size n)) ∧ Below w.heap.size w w' ∧ w'.heap.size = w.heap.size + 4

theorem p_new (w : World) (D L n : Nat) (h1 : 1 ≤ n) (h2 : n ≤ 1024) : Calls Try.prog 11 #[.pointer (some ⟨D, 0, none⟩), .pointer (some ⟨L, 0, none⟩), .int .i64 n] w (NewOut w D L n) := by
  have hmm := @run_makeMap Try.prog
  have hms := make_frames n h2 w
  have t1 : ¬ (n : Int) < 1 := by omega
  have t2 : ¬ (1024 : Int) < (n : Int) := by omega
  obtain ⟨w1, hw1⟩ : ∃ w1, w.alloc (.cells (fcells (List.replicate n fv0)).toArray 58) = w1 := ⟨_, rfl⟩
  obtain ⟨w2, hw2⟩ : ∃ w2, ((w1.alloc (.map #[] 0)).alloc (.map #[] 0)).alloc (.cells #[.pointer (some ⟨D, 0, none⟩), .pointer (some ⟨L, 0, none⟩), .slice (some ⟨w.heap.size, 0, none⟩) n n, .map (some w1.heap.size), .map (some (w1.heap.size + 1)), .int .i64 0] 53) = w2 := ⟨_, rfl⟩
  have hs1 : w1.heap.size = w.heap.size + 1 := by rw [← hw1]; simp
  have hs2 : w2.heap.size = w.heap.size + 4 := by rw [← hw2]; simp [hs1]
  have hb1 : Below w.heap.size w w1 := by rw [← hw1]; exact below_more (Below.refl _ _) _
  have hb2 : Below w.heap.size w w2 := by rw [← hw2]; exact below_more (below_more (below_more hb1 _) _) _
  have hb12 : Below w1.heap.size w1 w2 := by rw [← hw2]; exact below_more (below_more (below_more (Below.refl _ _) _) _) _
  have k2 : w2.heap[w1.heap.size + 1 + 1]? = some (.cells (pcells D L (newPLV w.heap.size n) 0) 53 (0, 0)) := by
    have h9 := heap_alloc_new ((w1.alloc (.map #[] 0)).alloc (.map #[] 0)) (.cells #[.pointer (some ⟨D, 0, none⟩), .pointer (some ⟨L, 0, none⟩), .slice (some ⟨w.heap.size, 0, none⟩) n n, .map (some w1.heap.size), .map (some (w1.heap.size + 1)), .int .i64 0] 53)
    rw [hw2] at h9
    have h8 : ((w1.alloc (.map #[] 0)).alloc (.map #[] 0)).heap.size = w1.heap.size + 1 + 1 := by simp
    rw [h8] at h9
    rw [h9, hs1]
    simp [pcells, newPLV]
  have c2 : w2.cell? ⟨w1.heap.size + 1 + 1, 2, none⟩ = some (.slice (some ⟨w.heap.size, 0, none⟩) n n) := by
    rw [cell_of_row w2 _ 2 _ _ _ k2]; simp [pcells, newPLV]
  have g2 : w2.heap[w.heap.size]? = some (.cells (fcells (List.replicate 0 fv1 ++ List.replicate (n - 0) fv0)).toArray 58 (0, 0)) := by
    rw [hb12.block _ (by omega), ← hw1]
    exact heap_alloc_new w _
  have m1 : IMap w2 w1.heap.size [] := by
    have h9 : (w1.alloc (.map #[] 0)).heap[w1.heap.size]? = some (.map #[] 0) := heap_alloc_new w1 _
    refine (imap_new w1).keep ?_
    rw [← hw2, heap_alloc_old _ _ (by simp; omega), heap_alloc_old _ _ (by simp)]
  have m2 : IMap w2 (w1.heap.size + 1) [] := by
    have h9 := imap_new (w1.alloc (.map #[] 0))
    have h8 : (w1.alloc (.map #[] 0)).heap.size = w1.heap.size + 1 := by simp
    rw [h8] at h9
    refine h9.keep ?_
    rw [← hw2, heap_alloc_old _ _ (by simp)]
  have HX := Lib.hid (And.intro hs1 (And.intro hs2 (And.intro hb2 (And.intro k2 (And.intro m1 m2)))))
  have G2 := Lib.hid g2
  have hn0 : (0 : Int) ≤ (n : Int) := by omega
  have HN := Lib.hid (And.intro h1 h2)
  clear h1 h2 hb1 hb2 hb12 k2 m1 m2 hs1 hs2 g2
  go_enter Try.func11, Try.ntmps11
  go_wp2
  clear hw1 hw2 hms hmm
  go_loopw [9, 29] (fun a j wr => ∃ k : Nat, k ≤ n ∧ j = .int .i64 (k : Int) ∧ wr.heap.size = w2.heap.size ∧ Below w.heap.size w wr ∧ (∀ b, b ≠ w.heap.size → wr.heap[b]? = w2.heap[b]?) ∧ wr.heap[w.heap.size]? = some (.cells (fcells (List.replicate k fv1 ++ List.replicate (n - k) fv0)).toArray 58 (0, 0))) (fun _ j _ => n - (intOf j).toNat)
  case atStart => exact ⟨0, by omega, rfl, rfl, HX.out.2.2.1, fun _ _ => rfl, G2.out⟩
  case round =>
    obtain ⟨k, hk, rfl, hsz, hbr, hoth, hG⟩ := hrel
    rcases Nat.lt_or_eq_of_le hk with hlt | rfl
    · have hki : (k : Int) < (n : Int) := by omega
      have hk0 : (0 : Int) ≤ (k : Int) := by omega
      have hne : w1.heap.size + 1 + 1 ≠ w.heap.size := by have := HX.out.1; omega
      have c2r : wr.cell? ⟨w1.heap.size + 1 + 1, 2, none⟩ = some (.slice (some ⟨w.heap.size, 0, none⟩) n n) := (World.cell?_of_block (hoth _ hne)).trans c2
      have hgk : (List.replicate k fv1 ++ List.replicate (n - k) fv0)[k]? = some fv0 := by
        rw [List.getElem?_append_right (by simp), List.length_replicate, Nat.sub_self, List.getElem?_replicate, if_pos (by omega)]
      have hcel : wr.cell? ⟨w.heap.size, 5 * k, none⟩ = some (.int .i64 0) := by
        rw [cell_of_row wr _ _ _ _ _ hG, List.getElem?_toArray]
        exact fcells_get _ k 0 fv0 hgk (by omega)
      have hfro : wr.frozen? ⟨w.heap.size, 5 * k, none⟩ = false := by simp [World.frozen?, hG]
      rw [Nat.mul_comm] at hcel hfro
      obtain ⟨w3, hw3⟩ : ∃ w3, wr.setCell ⟨w.heap.size, k * 5, none⟩ (.int .i64 (-1)) = w3 := ⟨_, rfl⟩
      have HWJ : Hid (wrap64 ((k : Int) + 1) = (k : Int) + 1) := by show _ = _; have h9 := HN.out; unfold wrap64; omega
      have H3 := Lib.hid (And.intro hsz (And.intro hbr (And.intro hoth (And.intro hG (And.intro hgk (And.intro hlt (And.intro hw3 hne)))))))
      clear hsz hbr hoth hG hgk hlt hk c2
      go_wp2
      obtain ⟨hsz, hbr, hoth, hG, hgk, hlt, hw3, hne⟩ := H3.out
      refine ⟨⟨k + 1, by omega, rfl, ?_, ?_, fun b hb => ?_, ?_⟩, by simp [intOf]; omega⟩
      · rw [← hw3, setCell_size]; exact hsz
      · rw [← hw3]; exact hbr.setCell (Nat.le_refl _) _
      · rw [← hw3, setCell_heap _ _ _ _ hb]; exact hoth b hb
      · rw [← hw3, setCell_blk hG, ← rep_set n k hlt, Nat.mul_comm k 5]
        congr 2
        have h9 := fcells_set1 _ k 0 fv0 fv1 (.int .i64 (-1)) hgk (by omega) rfl
        rw [rep_set n k hlt] at h9 ⊢
        exact h9
    · obtain ⟨hs1, hs2, hb2, k2, m1, m2⟩ := HX.out
      have hG' : wr.heap[w.heap.size]? = some (.cells (fcells (newPLV w.heap.size k).fs).toArray 58 (0, 0)) := by
        rw [hG]; simp [newPLV]
      have hrep : ∀ F, PRep wr (w.heap.size + 3) D L F (PM.new k) (newPLV w.heap.size k) := fun F =>
        ⟨by rw [hoth _ (by omega)]; rw [hs1] at k2; exact k2, hG', by simp [PM.new, newPLV, fv1],
          fun x hx => by
            have := List.eq_of_mem_replicate hx
            subst this
            exact RdB.nil _ _,
          by rw [hs1] at m1; exact m1.keep (hoth _ (by omega)), ⟨fun i x hx h0 => by
            have := List.eq_of_mem_replicate (List.mem_of_getElem? hx)
            subst this
            simp [fv1, FM.none] at h0, fun n u hu => by simp [newPLV, alook] at hu⟩,
          by rw [hs1] at m2; exact m2.keep (hoth _ (by omega)), fun n => by simp [newPLV, alook, PM.new, dlook], by simp [newPLV], by
            have := HN.out
            simp [newPLV, PM.new]; omega, by have := HN.out; simp [newPLV]; omega⟩
      have HR := Lib.hid (And.intro hrep (And.intro hbr (hsz.trans hs2)))
      have hA : w1.heap.size + 1 + 1 = w.heap.size + 3 := by omega
      have HA := Lib.hid hA
      clear hsz hbr hoth hG hG' hrep hs1 hs2 hb2 k2 m1 m2 hA
      go_wp2
      go_ret2
      exact ⟨by rw [HA.out]; rfl, HR.out.1, HR.out.2.1, HR.out.2.2⟩

theorem p_new_no (w : World) (a b : Value) : Calls Try.prog 11 #[a, b, .int .i64 0] w fun e w' => e = .returned (.tuple #[.pointer none, .int .i64 1]) ∧ w = w' := by
  go_enter Try.func11, Try.ntmps11
  go_wp2
  go_ret2
  exact ⟨rfl, rfl⟩
end Mun
