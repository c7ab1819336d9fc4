/- Contracts of a device: a new one; what reads bytes. -/
import Derived.Test.YtjfepmohoijalaaDiskA
set_option maxRecDepth 100000
set_option linter.unusedVariables false
namespace Mun
open Go Go.RowKit
open Go.Proofs

theorem info_bs : (Try.prog.info? 31).map (fun i => (i.zero, i.size, i.bytes)) = some (some (.slice none 0 0), 1, 24) := by kernel_rfl

theorem madeCells_one (z : Value) (n : Nat) : madeCells #[z] n = (List.replicate n z).toArray := by
  apply Array.ext
  · simp [madeCells]
  · intro i h1 h2
    simp [madeCells, Nat.mod_one]

theorem make_slots (n : Nat) (hn : n ≤ 65536) (w : World) :
    (Instr.makeSlice 80 (.int .i64 n) (.int .i64 n)).run Try.prog w = .ok (.slice (some ⟨w.heap.size, 0, none⟩) n n) (w.alloc (.cells (List.replicate n (Value.slice none 0 0)).toArray 31)) := by
  obtain ⟨i, hi, hz, h1, h2⟩ := info_of info_bs
  have hr := run_make (P := Try.prog) w _ _ i _ Try.underlying80 hi hz .i64 .i64 n n (by omega) (by omega) (by rw [h2]; omega) (by omega)
  rw [hr, h1]
  simp only [Int.toNat_natCast, Nat.mul_one]
  rw [show (Value.slice none 0 0).cells = #[Value.slice none 0 0] from rfl, madeCells_one]

theorem alloc_get (w : World) (o : Obj) (k : Nat) (h : k < w.heap.size) : (w.alloc o).heap[k]? = w.heap[k]? := by
  simp only [World.alloc, Array.getElem?_push, Nat.ne_of_lt h, if_false]

/-- what New lays -/
def newWorld (w : World) (pages room : Nat) : World :=
  ((w.alloc (.cells (List.replicate pages (Value.slice none 0 0)).toArray 31)).alloc (.map #[] 0)).alloc
    (.cells #[.int .i64 room, .slice (some ⟨w.heap.size, 0, none⟩) pages pages, .slice none 0 0, .map (some (w.heap.size + 1)), .slice none 0 0, .int .i64 (0 : Nat), .slice none 0 0, .int .i64 (-1), .int .i64 (0 : Nat), .bool false, .pointer none, .slice none 0 0] 85)

def newFoot (w : World) : Foot := fun k => k = w.heap.size + 2 ∨ k = w.heap.size ∨ k = w.heap.size + 1

def newDV (w : World) (pages : Nat) (E : Foot) : DV := ⟨w.heap.size, w.heap.size + 1, .slice none 0 0, .slice none 0 0, .slice none 0 0, .pointer none, .slice none 0 0, (List.replicate pages (Value.slice none 0 0)).toArray, [], [], E⟩

theorem new_rep (w : World) (pages room : Nat) (E : Foot) (hE : ∀ k, E k → k < w.heap.size) : DRep (newWorld w pages room) (w.heap.size + 2) (dfootE (w.heap.size + 2) (newDV w pages E)) (DM.new pages room) (newDV w pages E) := by
  have hP : (newWorld w pages room).heap[w.heap.size]? = some (.cells (List.replicate pages (Value.slice none 0 0)).toArray 31 (0, 0)) := by
    unfold newWorld
    rw [alloc_get _ _ _ (by simp only [World.size_alloc]; omega), alloc_get _ _ _ (by simp only [World.size_alloc]; omega)]
    exact heap_alloc_new w _
  have hM : (newWorld w pages room).heap[w.heap.size + 1]? = some (.map #[] 0) := by
    unfold newWorld
    rw [alloc_get _ _ _ (by simp only [World.size_alloc]; omega)]
    have := heap_alloc_new (w.alloc (.cells (List.replicate pages (Value.slice none 0 0)).toArray 31)) (.map #[] 0)
    rwa [World.size_alloc] at this
  have hD : (newWorld w pages room).heap[w.heap.size + 2]? = some (.cells #[.int .i64 room, .slice (some ⟨w.heap.size, 0, none⟩) pages pages, .slice none 0 0, .map (some (w.heap.size + 1)), .slice none 0 0, .int .i64 (0 : Nat), .slice none 0 0, .int .i64 (-1), .int .i64 (0 : Nat), .bool false, .pointer none, .slice none 0 0] 85 (0, 0)) := by
    have := heap_alloc_new ((w.alloc (.cells (List.replicate pages (Value.slice none 0 0)).toArray 31)).alloc (.map #[] 0)) (.cells #[.int .i64 room, .slice (some ⟨w.heap.size, 0, none⟩) pages pages, .slice none 0 0, .map (some (w.heap.size + 1)), .slice none 0 0, .int .i64 (0 : Nat), .slice none 0 0, .int .i64 (-1), .int .i64 (0 : Nat), .bool false, .pointer none, .slice none 0 0] 85)
    rw [World.size_alloc, World.size_alloc] at this
    exact this
  refine ⟨?_, hP, by simp [DM.new, newDV], ?_, World.ownsRow_nil _ _ _ _, rfl, fun p hp => by simp [newDV] at hp, ⟨[], 0, ⟨by simp, by simp, by simp, hM⟩, rfl⟩, fun n => rfl, fun q _ => rfl, World.ownsRow_nil _ _ _ _, RdB.nil _ _, RdB.nil _ _, rfl, fun k hk => ?_, fun k hk hd => ?_⟩
  · rw [hD]
    simp [dcells, DM.new, newDV]
  · intro i hi
    have hi' : i < pages := by simpa [DM.new] using hi
    refine ⟨.slice none 0 0, by simp [newDV, hi'], .inl ⟨rfl, ?_⟩⟩
    simp [DM.new]
  · have := hE k hk
    unfold newWorld
    simp only [World.size_alloc]
    omega
  · have := hE k hk
    rcases hd with h | h | h | h | h
    · omega
    · have : k = w.heap.size := h
      omega
    · have : k = w.heap.size + 1 := h
      omega
    · simp [newDV, Value.ownBlock] at h
    · simp [newDV, Value.ownBlock] at h

theorem new_disk (w : World) (pages room : Nat) {E : Foot} (hE : ∀ k, E k → k < w.heap.size) (h1 : pages ≤ 65536) (h2 : room ≤ 16777216) : DiskAt (newWorld w pages room) (w.heap.size + 2) E (newFoot w) (DM.new pages room) := by
  have e : newFoot w = dfoot (w.heap.size + 2) (newDV w pages E) := by
    funext k
    simp [newFoot, dfoot, Value.ownBlock, newDV]
  rw [e]
  exact ⟨newDV w pages E, rfl, rfl, new_rep w pages room E hE, DM.new_wf _ _ h1 h2⟩

theorem d_fresh (w : World) (pages room : Nat) (h1 : pages ≤ 65536) (h2 : room ≤ 16777216) : Calls Try.prog 26 #[.int .i64 pages, .int .i64 room] w fun e w' => e = .returned (.pointer (some ⟨w.heap.size + 2, 0, none⟩)) ∧ newWorld w pages room = w' := by
  have hmm := @run_makeMap Try.prog
  have hms := make_slots pages h1 w
  clear h1 h2
  go_enter Try.func26, Try.ntmps26
  go_wp2
  go_ret
  exact ⟨rfl, rfl⟩

theorem d_new (w : World) (pages room : Nat) (h0 : 1 ≤ pages) (h1 : pages ≤ 65536) (h2 : room ≤ 16777216) : Calls Try.prog 15 #[.int .i64 pages, .int .i64 room] w fun e w' => e = .returned (.tuple #[.pointer (some ⟨w.heap.size + 2, 0, none⟩), .int .i64 0]) ∧ newWorld w pages room = w' := by
  have hf := d_fresh w pages room h1 h2
  have t1 : (1 : Int) ≤ (pages : Int) := by omega
  have t2 : (pages : Int) ≤ 65536 := by omega
  have t3 : (room : Int) ≤ 16777216 := by omega
  have t4 : (0 : Int) ≤ (room : Int) := by omega
  clear h0 h1 h2
  go_enter Try.func15, Try.ntmps15
  go_wp2_with fail
  refine hf.mono ?_
  rintro e w' ⟨rfl, rfl⟩
  go_wp2
  go_ret2
  exact ⟨rfl, rfl⟩

theorem d_new_no (w : World) (pages room : Int) (h : ¬ (1 ≤ pages ∧ pages ≤ 65536 ∧ 0 ≤ room ∧ room ≤ 16777216)) : Calls Try.prog 15 #[.int .i64 pages, .int .i64 room] w fun e w' => e = .returned (.tuple #[.pointer none, .int .i64 1]) ∧ w = w' := by
  by_cases t1 : pages < 1
  · clear h
    go_enter Try.func15, Try.ntmps15
    go_wp2
    go_ret2
    exact ⟨rfl, rfl⟩
  · by_cases t2 : pages > 65536
    · clear h
      go_enter Try.func15, Try.ntmps15
      go_wp2
      go_ret2
      exact ⟨rfl, rfl⟩
    · by_cases t3 : room < 0
      · clear h
        go_enter Try.func15, Try.ntmps15
        go_wp2
        go_ret2
        exact ⟨rfl, rfl⟩
      · have t4 : room > 16777216 := by omega
        clear h
        go_enter Try.func15, Try.ntmps15
        go_wp2
        go_ret2
        exact ⟨rfl, rfl⟩

section
variable (w : World) (D : Nat) (F : Foot) {E : Foot} (m : DM)

theorem d_log_no (h : DiskAt w D E F m) (hd : m.dead = true) : Calls Try.prog 28 #[.pointer (some ⟨D, 0, none⟩)] w fun e w' => e = .returned (.tuple #[.slice none 0 0, .int .i64 9]) ∧ w = w' := by
  obtain ⟨d, rfl, rfl, h, hwf⟩ := h
  have c9 := h.cell 9
  simp only [dcells, hd] at c9
  clear h hd
  go_enter Try.func28, Try.ntmps28
  go_wp2
  go_ret2
  exact ⟨rfl, rfl⟩

theorem d_log (h : DiskAt w D E F m) (hd : m.dead = false) : Calls Try.prog 28 #[.pointer (some ⟨D, 0, none⟩)] w fun e w' => e = .returned (.tuple #[.slice (some ⟨w.heap.size, 0, none⟩) m.log.length m.log.length, .int .i64 0]) ∧ w.alloc (bobj m.log) = w' := by
  obtain ⟨d, rfl, rfl, h, hwf⟩ := h
  have c9 := h.cell 9
  have c4 := h.cell 4
  simp only [dcells, hd] at c4 c9
  have hrd : RdB NoF w d.lv m.log := h.log.rd (fun _ _ => noF _)
  have hl : m.log.length ≤ 140737488355328 := by have := hwf.room; have := hwf.room24; omega
  have hc := clone6 w d.lv m.log hrd hl
  clear h hd hrd hl
  go_enter Try.func28, Try.ntmps28
  go_wp2_with fail
  refine hc.mono ?_
  rintro e w' ⟨rfl, rfl⟩
  go_wp2
  go_ret2
  exact ⟨rfl, rfl⟩

theorem d_marked_no (h : DiskAt w D E F m) (hd : m.dead = true) : Calls Try.prog 27 #[.pointer (some ⟨D, 0, none⟩)] w fun e w' => e = .returned (.tuple #[.slice none 0 0, .int .i64 9]) ∧ w = w' := by
  obtain ⟨d, rfl, rfl, h, hwf⟩ := h
  have c9 := h.cell 9
  simp only [dcells, hd] at c9
  clear h hd
  go_enter Try.func27, Try.ntmps27
  go_wp2
  go_ret2
  exact ⟨rfl, rfl⟩

theorem d_marked (h : DiskAt w D E F m) (hd : m.dead = false) : Calls Try.prog 27 #[.pointer (some ⟨D, 0, none⟩)] w fun e w' => e = .returned (.tuple #[.slice (some ⟨w.heap.size, 0, none⟩) m.mark.length m.mark.length, .int .i64 0]) ∧ w.alloc (bobj m.mark) = w' := by
  obtain ⟨d, rfl, rfl, h, hwf⟩ := h
  have c9 := h.cell 9
  have c4 := h.cell 6
  simp only [dcells, hd] at c4 c9
  have hl : m.mark.length ≤ 140737488355328 := by have := hwf.mark; omega
  have hc := clone6 w d.mv m.mark h.mark hl
  clear h hd hl
  go_enter Try.func27, Try.ntmps27
  go_wp2_with fail
  refine hc.mono ?_
  rintro e w' ⟨rfl, rfl⟩
  go_wp2
  go_ret2
  exact ⟨rfl, rfl⟩

theorem d_read_dead (h : DiskAt w D E F m) (hd : m.dead = true) (n : Int) : Calls Try.prog 21 #[.pointer (some ⟨D, 0, none⟩), .int .i64 n] w fun e w' => e = .returned (.tuple #[.slice none 0 0, .int .i64 9]) ∧ w = w' := by
  obtain ⟨d, rfl, rfl, h, hwf⟩ := h
  have c9 := h.cell 9
  simp only [dcells, hd] at c9
  clear h hd
  go_enter Try.func21, Try.ntmps21
  go_wp2
  go_ret2
  exact ⟨rfl, rfl⟩

theorem d_read_no (h : DiskAt w D E F m) (hd : m.dead = false) (n : Int) (hn : hasB m.base.length n = false) : Calls Try.prog 21 #[.pointer (some ⟨D, 0, none⟩), .int .i64 n] w fun e w' => e = .returned (.tuple #[.slice none 0 0, .int .i64 1]) ∧ w = w' := by
  have hh := d_has w D F m h n
  rw [hn] at hh
  obtain ⟨d, rfl, rfl, h, hwf⟩ := h
  have c9 := h.cell 9
  simp only [dcells, hd] at c9
  clear h hd hn
  go_enter Try.func21, Try.ntmps21
  go_wp2_with fail
  refine hh.mono ?_
  rintro e w' ⟨rfl, rfl⟩
  go_wp2
  go_ret2
  exact ⟨rfl, rfl⟩

theorem zero_bs : ∀ w, (zeroValue 31).run Try.prog w = .ok (.slice none 0 0) w := fun w => by kernel_rfl

/-- the page as it was written last: its value, nil where it never was -/
theorem DRep.pageV {w : World} {D : Nat} {F : Foot} {m : DM} {d : DV} (h : DRep w D F m d) (n : Nat) (hn : n < m.base.length) :
    ∃ v, d.pg[n]? = some v ∧ PgV F w (((alook d.es n)).getD v) (m.page n) := by
  obtain ⟨v, h1, h2⟩ := h.pgv n hn
  refine ⟨v, h1, ?_⟩
  have hl : lastW m.waiting n = (lastW d.ws n).map (·.1) := by
    rw [h.wws]
    exact lastW_map (fun p : Bytes × Value => p.1) d.ws n
  rw [h.mpe n, DM.page, hl]
  cases hw : lastW d.ws n with
  | none =>
    simp only [Option.map_none, Option.getD_none, List.getD_eq_getElem?_getD, List.getElem?_eq_getElem hn, Option.getD_some]
    exact h2
  | some p =>
    exact .inr (h.wrd _ (lastW_mem hw))

theorem d_read (h : DiskAt w D E F m) (hd : m.dead = false) (n : Nat) (hn : n < m.base.length) : Calls Try.prog 21 #[.pointer (some ⟨D, 0, none⟩), .int .i64 n] w fun e w' => e = .returned (.tuple #[.slice (some ⟨w.heap.size, 0, none⟩) 512 512, .int .i64 0]) ∧ w.alloc (bobj (m.page n)) = w' := by
  have hh := d_has w D F m h n
  rw [show hasB m.base.length n = true by unfold hasB; exact decide_eq_true (by omega)] at hh
  obtain ⟨d, rfl, rfl, h, hwf⟩ := h
  have hlen := DM.page_length hwf n hn
  obtain ⟨v, hv1, hv2⟩ := h.pageV n hn
  have hv1' := hv1
  have hL := imap_lookup (P := Try.prog) Try.underlying82 Try.underlying3 (zero_bs w) h.mp n
  have hcellP : w.cell? ⟨d.P, n, none⟩ = some v := by
    rw [cell_of_row w d.P n _ _ _ h.pgs, hv1]
  have c9 := h.cell 9
  have c1 := h.cell 1
  have c3 := h.cell 3
  simp only [dcells, hd] at c9 c1 c3
  have hlt : (n : Int) < (m.base.length : Int) := by omega
  have h0 : (0 : Int) ≤ (n : Int) := by omega
  have hm0 : (Instr.makeSlice 31 (.int .i64 512) (.int .i64 512)).run Try.prog w = .ok (.slice (some ⟨w.heap.size, 0, none⟩) 512 512) (w.alloc (bobj page0)) := make_bytes 512 512 (Nat.le_refl _) (by decide) w
  have heq := fun a k c => Lib.run_eql_slice_nil (P := Try.prog) w _ _ a k c 0 0 Try.underlying31
  obtain ⟨u, hu⟩ : ∃ u, (alook d.es n).getD v = u := ⟨_, rfl⟩
  rw [hu] at hv2
  rcases hv2 with ⟨rfl, hpg⟩ | hrd
  · have HG := Lib.hid hpg
    clear hpg h hn hlen hv1 hv1' hd
    cases hE : alook d.es n with
    | none =>
      rw [hE] at hL hu
      simp only [Option.getD_none, Option.isSome_none] at hL hu
      subst hu
      clear hE
      go_enter Try.func21, Try.ntmps21
      go_wp2_with fail
      refine hh.mono ?_
      rintro e w' ⟨rfl, rfl⟩
      go_wp2
      go_ret2
      rw [HG.out]
      exact ⟨rfl, rfl⟩
    | some x =>
      rw [hE] at hL hu
      simp only [Option.getD_some, Option.isSome_some] at hL hu
      subst hu
      clear hE
      go_enter Try.func21, Try.ntmps21
      go_wp2_with fail
      refine hh.mono ?_
      rintro e w' ⟨rfl, rfl⟩
      go_wp2
      go_ret2
      rw [HG.out]
      exact ⟨rfl, rfl⟩
  · have hc := clone6 w u _ hrd (by omega)
    obtain ⟨g, off, c, rfl, -⟩ := hrd.at_ (by omega)
    rw [hlen] at hc hu
    have HL := Lib.hid hlen
    clear h hn hlen hv1 hv1' hd hrd hm0
    cases hE : alook d.es n with
    | none =>
      rw [hE] at hL hu
      simp only [Option.getD_none, Option.isSome_none] at hL hu
      subst hu
      clear hE
      go_enter Try.func21, Try.ntmps21
      go_wp2_with fail
      refine hh.mono ?_
      rintro e w' ⟨rfl, rfl⟩
      go_wp2_with fail
      refine hc.mono ?_
      rintro e w' ⟨rfl, rfl⟩
      go_wp2
      go_ret2
      exact ⟨rfl, rfl⟩
    | some x =>
      rw [hE] at hL hu
      simp only [Option.getD_some, Option.isSome_some] at hL hu
      subst hu
      clear hE
      go_enter Try.func21, Try.ntmps21
      go_wp2_with fail
      refine hh.mono ?_
      rintro e w' ⟨rfl, rfl⟩
      go_wp2_with fail
      refine hc.mono ?_
      rintro e w' ⟨rfl, rfl⟩
      go_wp2
      go_ret2
      exact ⟨rfl, rfl⟩
end
end Mun
