/- Contract of Held: an owner that holds one name. -/
import Derived.Test.YtbdkhegfmnladaaLockJ
import Derived.Test.YtbdkhegfmnladaaKeysO
import Derived.Test.YtbdkhegfmnladaaBase
set_option maxRecDepth 100000
set_option linter.unusedVariables false
namespace Mun
open Go Go.RowKit
open Go.Proofs

theorem info_gr : (Try.prog.info? 33).map (fun i => (i.zero, i.size, i.bytes)) = some (some (.agg #[.string ⟨#[]⟩, .int .i64 0]), 2, 24) := by kernel_rfl
theorem make_gr (w : World) : (Instr.makeSlice 30 (.int .i64 0) (.int .i64 1)).run Try.prog w = .ok (.slice (some ⟨w.heap.size, 0, none⟩) 0 1) (w.alloc (.cells #[.string ⟨#[]⟩, .int .i64 0] 33)) := by
  obtain ⟨i, hi, hz, h1, h2⟩ := info_of info_gr
  have hr := run_make (P := Try.prog) w _ _ i _ Try.underlying30 hi hz .i64 .i64 0 1 (by omega) (by omega) (by rw [h2]; omega) (by omega)
  have hm : madeCells (Value.agg #[Value.string { data := #[] }, Value.int IntKind.i64 0]).cells (Int.toNat 1 * 2) = #[.string ⟨#[]⟩, .int .i64 0] := by kernel_rfl
  rw [hr, h1, hm]
  rfl
theorem app_gr {w : World} {ty : TypeId} (g0 : Nat) (s : ByteArray) (m : Int) (hg : w.heap[g0]? = some (.cells #[.string ⟨#[]⟩, .int .i64 0] 33 (0, 0))) :
    ∃ g c w', (Builtin.append_ #[30, 30] ty #[.slice (some ⟨g0, 0, none⟩) 0 1, .slice (some ⟨w.heap.size, 0, none⟩) 1 1]).run Try.prog (w.alloc (.cells #[.string s, .int .i64 m] 33)) = .ok (.slice (some ⟨g, 0, none⟩) 1 c) w' ∧
      w'.cell? ⟨g, 0, none⟩ = some (.string s) ∧ w'.cell? ⟨g, 1, none⟩ = some (.int .i64 m) ∧ Below g0 w w' := by
  obtain ⟨i, hi, hz, h1, h2⟩ := info_of info_gr
  have hlt : g0 < w.heap.size := (Array.getElem?_eq_some_iff.1 hg).1
  have hown : (w.alloc (.cells #[.string s, .int .i64 m] 33)).ownsRow g0 33 2 (.slice (some ⟨g0, 0, none⟩) 0 1) 0 [] :=
    ⟨by simp, .inr ⟨g0, 1, _, rfl, Nat.le_refl _, (heap_alloc_old _ _ hlt).trans hg, by omega, by decide, by simp, by simp⟩⟩
  have hx' : RdV (fun _ => False) (w.alloc (.cells #[.string s, .int .i64 m] 33)) 2 (.slice (some ⟨w.heap.size, 0, none⟩) 1 1) 1 [.string s, .int .i64 m] :=
    ⟨rfl, _, _, rfl, Nat.le_refl _, by decide, by simp, fun _ => ⟨_, 0, _, _, _, rfl, fun h => h, heap_alloc_new w _, rfl⟩⟩
  obtain ⟨v', w', hr, h3, h4, h5, h6⟩ := run_append_rd (P := Try.prog) (ty := ty) Try.underlying30 hi hz h1 h2 (by rfl) (by omega) hown hx' (by intro u hu; simp at hu; rcases hu with rfl | rfl <;> rfl) (by omega) (by omega) (by rw [World.size_alloc]; omega)
  rcases h3.2 with ⟨_, h0⟩ | ⟨g, cap, cur, rfl, hbg, hg', h7, h8, h9, h10⟩
  · omega
  · simp only [Nat.zero_add] at hr h7 h10
    have h11 := fun (k : Nat) => congrArg (fun (l : List Value) => l[k]?) h10
    refine ⟨g, cap, w', hr, ?_, ?_, ?_⟩
    · have := h11 0
      rw [cell_of_row w' g 0 cur _ _ hg']
      simpa using this
    · have := h11 1
      rw [cell_of_row w' g 1 cur _ _ hg']
      simpa using this
    · have hb : Below g0 w (w.alloc (.cells #[.string s, .int .i64 m] 33)) := (Below.refl _ w).alloc (Nat.le_of_lt hlt) _
      exact hb.grown h4 (by rw [World.size_alloc]; omega) (fun k hk => by simp [Value.ownBlock] at hk; omega)

theorem len_map1 (w : World) (M : Nat) (ty : TypeId) (h : GMap w M [(strN, .agg #[])]) : (Builtin.len_ #[80] ty #[.map (some M)]).run Try.prog w = .ok (.int .i64 1) w := by
  obtain ⟨l, c, ⟨-, -, -, hb⟩, he⟩ := h
  have hl : l.length = 1 := by have := congrArg List.length he; simpa using this
  have hs : (gEntries l).size = 1 := by simp [gEntries, hl]
  simp [Builtin.len_, Sem.run_bind, run_underlying Try.underlying80, getObj_map hb, hs, goInt]

set_option maxHeartbeats 1000000 in
theorem held_one {W0 w : World} {T P W N p H M : Nat} {o m : Int} (h : One W0 w T P W N p H M o strN m) :
    Calls Try.prog 18 #[.pointer (some ⟨T, 0, none⟩), .int .u64 o] w fun e w' => ∃ g c, e = .returned (.slice (some ⟨g, 0, none⟩) 1 c) ∧ w'.cell? ⟨g, 0, none⟩ = some (.string strN) ∧ w'.cell? ⟨g, 1, none⟩ = some (.int .i64 m) ∧ Below w.heap.size w w' := by
  have c1 : w.cell? ⟨T, 2, none⟩ = some (.map (some N)) := cell_of_row w T 2 _ _ _ h.tab.blk
  have hl1 := gmap_lookup1 (P := Try.prog) Try.underlying64 Try.underlying29 (z80 w) h.tab.nm o
  rw [show glook (α := Int) [(o, Value.map (some M))] o = some (.map (some M)) by simp [glook]] at hl1
  change (Instr.lookup 64 (.map (some N)) (.int .u64 o) false).run Try.prog w = .ok (.map (some M)) w at hl1
  have hln := len_map1 w M 3 h.nm
  have hmk := make_gr w
  obtain ⟨w1, hw1⟩ : ∃ w1, w.alloc (.cells #[.string ⟨#[]⟩, .int .i64 0] 33) = w1 := ⟨_, rfl⟩
  have hb1 : Below w.heap.size w w1 := by rw [← hw1]; exact (Below.refl _ _).alloc (Nat.le_refl _) _
  have hg1 : w1.heap[w.heap.size]? = some (.cells #[.string ⟨#[]⟩, .int .i64 0] 33 (0, 0)) := by rw [← hw1]; exact heap_alloc_new w _
  have h1 := h.below hb1
  have c2 : w1.cell? ⟨T, 2, none⟩ = some (.map (some N)) := cell_of_row w1 T 2 _ _ _ h1.tab.blk
  have hl2 := gmap_lookup1 (P := Try.prog) Try.underlying64 Try.underlying29 (z80 w1) h1.tab.nm o
  rw [show glook (α := Int) [(o, Value.map (some M))] o = some (.map (some M)) by simp [glook]] at hl2
  change (Instr.lookup 64 (.map (some N)) (.int .u64 o) false).run Try.prog w1 = .ok (.map (some M)) w1 at hl2
  have hky := keys_any (some M) w1
  have hso := sorted_n w1 M h1.nm (.func (.func 36) #[] #[])
  rw [hw1] at hmk
  have H1 := Lib.hid (And.intro h1 (And.intro hb1 hg1))
  have HKY := Lib.hid hky
  have HSO := Lib.hid hso
  clear h1 hb1 hg1 hky hso hw1 h
  go_enter Try.func18, Try.ntmps18
  go_wp2_with fail
  refine HKY.out.mono ?_
  rintro e w2 ⟨rfl, rfl⟩
  go_wp2_with fail
  refine HSO.out.mono ?_
  rintro e w3 ⟨g, c, rfl, hg, hb3⟩
  have h3 := H1.out.1.below hb3
  have hg3 : w3.heap[w.heap.size]? = some (.cells #[.string ⟨#[]⟩, .int .i64 0] 33 (0, 0)) := (hb3.block _ (Array.getElem?_eq_some_iff.1 H1.out.2.2).1).trans H1.out.2.2
  have hb03 : Below w.heap.size w w3 := H1.out.2.1.trans (hb3.mono H1.out.2.1.size)
  have q1 : w3.cell? ⟨T, 0, none⟩ = some (.map (some P)) := cell_of_row w3 T 0 _ _ _ h3.tab.blk
  have k1 := gmap_lookup1 (P := Try.prog) Try.underlying62 Try.underlying9 (z67 w3) h3.tab.pl strN
  rw [show glook (α := ByteArray) [(strN, Value.pointer (some ⟨p, 0, none⟩))] strN = some (.pointer (some ⟨p, 0, none⟩)) by simp [glook]] at k1
  change (Instr.lookup 62 (.map (some P)) (.string strN) false).run Try.prog w3 = .ok (.pointer (some ⟨p, 0, none⟩)) w3 at k1
  have q2 : w3.cell? ⟨p, 0, none⟩ = some (.map (some H)) := cell_of_row w3 p 0 _ _ _ h3.pl.blk
  have k2 := gmap_lookup1 (P := Try.prog) Try.underlying68 Try.underlying29 (z3 w3) h3.pl.hl o
  rw [show glook (α := Int) [(o, Value.int .i64 m)] o = some (.int .i64 m) by simp [glook]] at k2
  change (Instr.lookup 68 (.map (some H)) (.int .u64 o) false).run Try.prog w3 = .ok (.int .i64 m) w3 at k2
  obtain ⟨g5, c5, w5, hr5, z0, z1, hb5⟩ := app_gr (ty := 30) w.heap.size strN m hg3
  have H5 := Lib.hid (And.intro z0 (And.intro z1 (hb03.trans hb5)))
  have HR5 := Lib.hid hr5
  clear hr5 z0 z1 hb5 hg3 h3 hb03 HSO HKY hl1 hl2 c1 c2 hmk hln
  go_wp2
  go_loopw [5, 7, 25] (fun ov sv i wr => (i = .int .i64 0 ∧ ov = .slice (some ⟨w.heap.size, 0, none⟩) 0 1 ∧ w3 = wr) ∨ (i = .int .i64 1 ∧ ov = .slice (some ⟨g5, 0, none⟩) 1 c5 ∧ w5 = wr)) (fun _ _ i _ => (1 - intOf i).toNat)
  case atStart => exact .inl ⟨rfl, rfl, rfl⟩
  case round =>
    rcases hrel with ⟨rfl, rfl, rfl⟩ | ⟨rfl, rfl, rfl⟩
    · go_wp2_with (at_builtin; refine wpList_append_eq rfl rfl HR5.out rfl rfl ?_; clear HR5)
      go_roundw
      case rel => exact .inr ⟨rfl, rfl, trivial⟩
      case measure => simp [intOf]
    · go_wp2
      go_ret
      exact ⟨g5, c5, rfl, H5.out.1, H5.out.2.1, H5.out.2.2⟩
end Mun
