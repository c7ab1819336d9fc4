/- Contracts of munimentref6: at, New. -/
import Derived.Test.YtmlggofojdhmmaaRefDA
set_option maxRecDepth 100000
set_option linter.unusedVariables false
set_option linter.unusedSimpArgs false
namespace Mun
open Go Go.RowKit
open Go.Proofs

theorem r6at {F : Foot} (w : World) (v : Value) (c : Bytes) (hv : RdB F w v c) (i : Nat) (hi : i ≤ 4398046511104) : Calls Try.prog 46 #[v, .int .i64 i] w fun e w' => e = .returned (.int .i64 (chAt c i)) ∧ w = w' := by
  by_cases hlt : i < c.length
  · obtain ⟨g, off, cc, rfl, -, hcm, -, -, hcs⟩ := hv.at_ (by omega)
    have h1 := hcs i hlt
    have hz : chAt c i = (c[i]).toNat := by unfold chAt; rw [List.getD_eq_getElem?_getD, List.getElem?_eq_getElem hlt]; rfl
    obtain ⟨z, hzz⟩ : ∃ z, (c[i]).toNat = z := ⟨_, rfl⟩
    have hzb : z < 256 := by rw [← hzz]; exact UInt8.toNat_lt _
    rw [hzz] at h1 hz
    have HZ := Lib.hid hz
    obtain ⟨n, hn⟩ : ∃ n, c.length = n := ⟨_, rfl⟩
    rw [hn] at hlt ⊢
    have hii : (i : Int) < (n : Int) := by omega
    have hi0 : (0 : Int) ≤ (i : Int) := by omega
    have hzi : (z : Int) < 256 := by omega
    have hz0 : (0 : Int) ≤ (z : Int) := by omega
    clear hv hcs hz hzz hlt hn hcm
    go_enter Try.func46, Try.ntmps46
    go_wp2
    go_ret
    exact ⟨by rw [HZ.out]; rfl, rfl⟩
  · have hz : chAt c i = 0 := by unfold chAt; rw [List.getD_eq_getElem?_getD, List.getElem?_eq_none (by omega)]; rfl
    have HZ := Lib.hid hz
    obtain ⟨a, n, cc, rfl, HN, -, hcm⟩ := hv.formN
    have hii : ¬ (i : Int) < (n : Int) := by have := HN.out; omega
    clear hv hz hlt hcm
    go_enter Try.func46, Try.ntmps46
    go_wp2
    go_ret
    exact ⟨by rw [HZ.out]; rfl, rfl⟩

/-- a device's box, apart from rows of bytes -/
theorem box_row_ne {w : World} {b k B : Nat} {cs : Array Value} {v : Value} {vs : List Value} (h : BoxAt w b cs) (hr : OwnV w B v vs) (hk : v.ownBlock = some k) : k ≠ b := by
  rintro rfl
  obtain ⟨cur, hc⟩ := row_blk hr hk
  unfold BoxAt at h
  rw [h] at hc
  injection hc with hc
  injection hc with _ hc _
  exact absurd hc (by decide)
theorem box_own_ne {w : World} {b k B : Nat} {cs : Array Value} {v : Value} {l : Bytes} (h : BoxAt w b cs) (hr : OwnB w B 5 v l) (hk : v.ownBlock = some k) : k ≠ b := by
  rintro rfl
  obtain ⟨cur, hc⟩ := own_blk hr hk
  unfold BoxAt at h
  rw [h] at hc
  injection hc with hc
  injection hc with _ hc _
  exact absurd hc (by decide)
theorem NewL.boxSet {B : Nat} {w0 wr : World} {v : Value} {us : List Value} {cs : List Bytes} {b : Nat} {bc : Array Value} (h : NewL B w0 wr v us cs) (hb : BoxAt wr b bc) (hB : B ≤ b) (i : Nat) (x : Value) : NewL B w0 (wr.setCell ⟨b, i, none⟩ x) v us cs :=
  ⟨h.row.same (fun k hk => setCell_heap _ _ _ _ (box_row_ne hb h.row hk)), h.len, fun j u hu => by
    obtain ⟨c, h1, h2⟩ := h.own j u hu
    exact ⟨c, h1, h2.same (fun k hk => setCell_heap _ _ _ _ (box_own_ne hb h2 hk))⟩, h.bl.setCell hB _⟩

def newC (room : Nat) (bv : Value) : Array Value := #[bv, .slice none 0 0, .int .i64 room, .slice none 0 0, .int .i64 0, .slice none 0 0, .int .i64 (-1), .int .i64 0, .bool false, .int .i64 0, .slice none 0 0, .slice none 0 0, .bool false]
def NewOut (w : World) (pages room : Nat) (e : Ending) (w' : World) : Prop := ∃ a c us, e = .returned (.agg (newC room (.slice a pages c))) ∧ NewL w.heap.size w w' (.slice a pages c) us (List.replicate pages page0)

set_option maxHeartbeats 1000000 in
theorem r6new (w : World) (pages room : Nat) (hp : pages ≤ 65536) (hr : room ≤ 16777216) : Calls Try.prog 31 #[.int .i64 pages, .int .i64 room] w (NewOut w pages room) := by
  have hpi : (pages : Int) ≤ 65536 := by omega
  have hp0 : (0 : Int) ≤ (pages : Int) := by omega
  have hri : (room : Int) ≤ 16777216 := by omega
  have HP := Lib.hid hp
  obtain ⟨w1, hw1⟩ : ∃ w1, (w.alloc (.cells Z13 52)).alloc (.cells (newC room (.slice none 0 0)) 52) = w1 := ⟨_, rfl⟩
  have hb1 : Below w.heap.size w w1 := by rw [← hw1]; exact below_more (below_more (Below.refl _ _) _) _
  have hres : BoxAt w1 w.heap.size Z13 := by rw [← hw1]; exact (heap_alloc_old _ _ (by rw [World.size_alloc]; omega)).trans (BoxAt.new w _)
  have hbox : BoxAt w1 (w.heap.size + 1) (newC room (.slice none 0 0)) := by rw [← hw1]; have := BoxAt.new (w.alloc (.cells Z13 52)) (newC room (.slice none 0 0)); rw [World.size_alloc] at this; exact this
  have H1 := Lib.hid (And.intro hb1 (And.intro hres hbox))
  unfold newC Z13 at hw1
  subst hw1
  clear hp hr hb1 hres hbox
  go_enter Try.func31, Try.ntmps31
  go_wp2
  go_loopw [6] (fun i wr => ∃ (q : Nat) (u : Value) (us : List Value), q ≤ pages ∧ i = .int .i64 (q : Int) ∧ NewL w.heap.size w wr u us (List.replicate q page0) ∧ BoxAt wr w.heap.size Z13 ∧ BoxAt wr (w.heap.size + 1) (newC room u)) (fun i _ => pages - (intOf i).toNat)
  case atStart => exact ⟨0, _, [], by omega, rfl, NewL.nil H1.out.1, H1.out.2.1, H1.out.2.2⟩
  case round =>
    obtain ⟨q, u, us, hq, rfl, hN, hR, hB⟩ := hrel
    have hul : us.length = q := by rw [hN.len, List.length_replicate]
    obtain ⟨ua, uc, rfl⟩ := hN.form
    rw [hul] at hN hB
    rcases Nat.lt_or_eq_of_le hq with hlt | heq
    · have hN1 := hN.below hN.bl.size ((below_drewN (Below.refl wr.heap.size wr) 1).alloc (Nat.le_refl _) (bobj page0))
      have ho1 : OwnB (wr.drew.alloc (bobj page0)) w.heap.size 5 (.slice (some ⟨wr.heap.size, 0, none⟩) 512 512) page0 := by
        have h9 := bobj_own wr.drew page0 512 w.heap.size page0_length.symm (by rw [page0_length]; decide) hN.bl.size
        rw [page0_length] at h9
        exact h9
      obtain ⟨g3, c3, w4, hr4, hN4, hk4, hz4⟩ := hN1.push2 (ty := 47) hN1.bl.size ho1 (by rw [hul]; have := HP.out; omega)
      rw [hul] at hr4 hN4
      have hBa : BoxAt (wr.drew.alloc (bobj page0)) (w.heap.size + 1) (newC room (.slice ua q uc)) := (heap_alloc_old _ _ hB.lt).trans hB
      have hRa : BoxAt (wr.drew.alloc (bobj page0)) w.heap.size Z13 := (heap_alloc_old _ _ hR.lt).trans hR
      have hB4 : BoxAt w4 (w.heap.size + 1) (newC room (.slice ua q uc)) := (hk4 _ hBa.lt (fun e => box_row_ne hBa hN1.row e.symm rfl)).trans hBa
      have hR4 : BoxAt w4 w.heap.size Z13 := (hk4 _ hRa.lt (fun e => box_row_ne hRa hN1.row e.symm rfl)).trans hRa
      have hN5 := hN4.boxSet hB4 (by omega) 0 (.slice (some ⟨g3, 0, none⟩) (q + 1) c3)
      have hB5 := hB4.set 0 (.slice (some ⟨g3, 0, none⟩) (q + 1) c3)
      have hR5 := hR4.setNe 0 (.slice (some ⟨g3, 0, none⟩) (q + 1) c3) (show w.heap.size ≠ w.heap.size + 1 by omega)
      have hrep : List.replicate q page0 ++ [page0] = List.replicate (q + 1) page0 := (List.replicate_succ' ..).symm
      rw [hrep] at hN5
      have HN5 : Hid (NewL w.heap.size w (w4.setCell ⟨w.heap.size + 1, 0, none⟩ (.slice (some ⟨g3, 0, none⟩) (q + 1) c3)) (.slice (some ⟨g3, 0, none⟩) (q + 1) c3) (us ++ [.slice (some ⟨wr.heap.size, 0, none⟩) 512 512]) (List.replicate (q + 1) page0) ∧
        BoxAt (w4.setCell ⟨w.heap.size + 1, 0, none⟩ (.slice (some ⟨g3, 0, none⟩) (q + 1) c3)) w.heap.size Z13 ∧ BoxAt (w4.setCell ⟨w.heap.size + 1, 0, none⟩ (.slice (some ⟨g3, 0, none⟩) (q + 1) c3)) (w.heap.size + 1) (newC room (.slice (some ⟨g3, 0, none⟩) (q + 1) c3)) ∧ q < pages) := ⟨hN5, hR5, hB5, hlt⟩
      have hmk : ∀ W, (Instr.makeSlice 28 (.int .i64 512) (.int .i64 512)).run Try.prog W = .ok (.slice (some ⟨W.heap.size, 0, none⟩) 512 512) (W.alloc (bobj page0)) := fun W => make_bytes 512 512 (Nat.le_refl _) (by decide) W
      have z0 : wr.cell? ⟨w.heap.size + 1, 0, none⟩ = some (.slice ua q uc) := hB.cell 0 rfl
      have z1 : (wr.alloc (bobj page0)).cell? ⟨w.heap.size + 1, 0, none⟩ = some (.slice ua q uc) := hBa.cell 0 rfl
      have z2 : ((wr.alloc (bobj page0)).alloc (.cells #[.slice (some ⟨wr.heap.size, 0, none⟩) 512 512] 28)).cell? ⟨w.heap.size + 1, 0, none⟩ = some (.slice ua q uc) := by
        have h9 : BoxAt ((wr.drew.alloc (bobj page0)).alloc (.cells #[.slice (some ⟨wr.heap.size, 0, none⟩) 512 512] 28)) (w.heap.size + 1) (newC room (.slice ua q uc)) := (heap_alloc_old _ _ hBa.lt).trans hBa
        exact h9.cell 0 rfl
      have z4 : w4.cell? ⟨w.heap.size + 1, 0, none⟩ = some (.slice ua q uc) := hB4.cell 0 rfl
      have z5 : w4.frozen? ⟨w.heap.size + 1, 0, none⟩ = false := hB4.frozen 0
      have hqi : (q : Int) < (pages : Int) := by omega
      have hq0 : (0 : Int) ≤ (q : Int) := by omega
      have hr5 : (Builtin.append_ #[47, 47] 47 #[.slice ua q uc, .slice (some ⟨wr.heap.size + 1, 0, none⟩) 1 1]).run Try.prog (((wr.alloc (bobj page0)).alloc (.cells #[.slice (some ⟨wr.heap.size, 0, none⟩) 512 512] 28)).drew) = .ok (.slice (some ⟨g3, 0, none⟩) (q + 1) c3) w4 := by
        have h9 := hr4
        rw [World.size_alloc] at h9
        exact h9
      have HR4 := Lib.hid hr5
      clear hN hR hB hN1 ho1 hr4 hr5 hN4 hk4 hz4 hBa hRa hB4 hR4 hN5 hB5 hR5 hrep hlt hq hul
      go_wp2
      go_region_law (refine step_append_eq rfl rfl HR4.out rfl rfl ?_)
      all_goals
        go_wp2
        go_roundw
        case rel => exact ⟨q + 1, _, _, by have := HN5.out.2.2.2; omega, by go_num, HN5.out.1, HN5.out.2.1, HN5.out.2.2.1⟩
        case measure => have := HN5.out.2.2.2; simp [intOf]; omega
    · subst heq
      obtain ⟨wy, hwy⟩ : ∃ wy, World.setRow wr w.heap.size (newC room (.slice ua q uc)) = wy := ⟨_, rfl⟩
      have hR2 := hR.row (newC room (.slice ua q uc))
      have hfin : Hid (NewOut w q room (.returned (.agg (newC room (.slice ua q uc)))) wy) := by
        refine ⟨ua, uc, us, rfl, ?_⟩
        rw [← hwy]
        refine ⟨hN.row.same (fun k hk => setRow_other _ _ _ _ (box_row_ne hR hN.row hk)), hN.len, fun j u hu => ?_, below_setRow hN.bl (Nat.le_refl _) _⟩
        obtain ⟨c, h1, h2⟩ := hN.own j u hu
        exact ⟨c, h1, h2.same (fun k hk => setRow_other _ _ _ _ (box_own_ne hR h2 hk))⟩
      rw [hwy] at hR2
      have HB := Lib.hid hB
      have HR := Lib.hid hR
      have HR2 := Lib.hid hR2
      unfold newC at HB HR2 hwy hfin
      clear hN hR hB hR2 hul hq
      go_wp2_with (first
        | (refine wpList_load_row rfl _ _ rfl (w.heap.size + 1) rfl _ _ (0, 0) _ HB.out Try.underlying52 rfl info13 ?_)
        | (refine wpList_store_row rfl _ _ _ rfl w.heap.size _ rfl rfl _ _ HR.out info13 rfl (by simp [Value.oneCell']) ?_; rw [hwy]))
      exact bodyPost_ret (results_cell_row (fn := Try.f31) (p := 4) (ty := 52) rfl _ _ w.heap.size 52 _ (0, 0) _ rfl HR2.out Try.underlying52 rfl info13) rfl hfin.out
end Mun
