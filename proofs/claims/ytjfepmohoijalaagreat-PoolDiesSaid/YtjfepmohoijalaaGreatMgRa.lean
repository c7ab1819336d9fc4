/- Texts of mine, one behind the other: RpA, RpB, RpC, RpD, RpE. -/
import Derived.Test.YtjfepmohoijalaaGreatMgQ
import Derived.Test.YtjfepmohoijalaaGreatMgW
import Derived.Deep.MidRow
section
/- How chapter 8's own pool lies in memory; find, Pins, pinned. -/
set_option maxRecDepth 100000
set_option linter.unusedVariables false
set_option linter.unusedSimpArgs false
namespace Mun
open Go Go.RowKit
open Go.Proofs

/-- a frame of the reference -/
structure RF where
  pg : Int
  pins : Nat
  touch : Bool
  b : Bytes
  lsn : Nat
  chg : Bool

/-- the reference's pool -/
structure RP where
  fr : List RF
  hand : Nat
  dt : List (Int × (Nat × Bool))
  dk : List Bytes
  fin : Nat
  forced : Nat

abbrev RFV := RF × Value
def r6 (x : RFV) : List Value := [.int .i64 x.1.pg, .int .i64 (x.1.pins : Int), .bool x.1.touch, x.2, .int .u64 (x.1.lsn : Int), .bool x.1.chg]
def rfc (l : List RFV) : List Value := l.flatMap r6
def m3 (p : Int × (Nat × Bool)) : List Value := [.int .i64 p.1, .int .u64 (p.2.1 : Int), .bool p.2.2]
def mkc (l : List (Int × (Nat × Bool))) : List Value := l.flatMap m3

structure RPV where
  fv : Value
  dv : Value
  kv : Value
  fs : List RFV
  ks : List (Bytes × Value)

def rpcells (p : RP) (x : RPV) : Array Value := #[x.fv, .int .i64 (p.hand : Int), x.dv, x.kv, .int .u64 (p.fin : Int), .int .u64 (p.forced : Int)]

structure RAt (F : Foot) (w : World) (p : RP) (x : RPV) : Prop where
  fs : RdV F w 6 x.fv x.fs.length (rfc x.fs)
  frs : x.fs.map (·.1) = p.fr
  fb : ∀ f ∈ x.fs, RdB F w f.2 f.1.b
  ds : RdV F w 3 x.dv p.dt.length (mkc p.dt)
  ks : RdV F w 1 x.kv x.ks.length (x.ks.map (·.2))
  kps : x.ks.map (·.1) = p.dk
  kb : ∀ q ∈ x.ks, RdB F w q.2 q.1

theorem flat_get {β : Type} (f : β → List Value) (s : Nat) (hf : ∀ y, (f y).length = s) : ∀ (l : List β) (i k : Nat) (y : β), l[i]? = some y → k < s → (l.flatMap f)[i * s + k]? = (f y)[k]?
  | [], i, k, y, h, _ => by simp at h
  | z :: l, 0, k, y, h, hk => by
    simp only [List.getElem?_cons_zero, Option.some.injEq] at h
    subst h
    rw [Nat.zero_mul, Nat.zero_add, List.flatMap_cons, List.getElem?_append_left (by rw [hf]; exact hk)]
  | z :: l, i + 1, k, y, h, hk => by
    simp only [List.getElem?_cons_succ] at h
    rw [List.flatMap_cons, List.getElem?_append_right (by rw [hf, Nat.add_mul]; omega), hf, show (i + 1) * s + k - s = i * s + k by rw [Nat.add_mul]; omega]
    exact flat_get f s hf l i k y h hk
theorem rfc_get (l : List RFV) (i k : Nat) (y : RFV) (h : l[i]? = some y) (hk : k < 6) : (rfc l)[i * 6 + k]? = (r6 y)[k]? := flat_get r6 6 (fun _ => rfl) l i k y h hk
theorem mkc_get (l : List (Int × (Nat × Bool))) (i k : Nat) (y : Int × (Nat × Bool)) (h : l[i]? = some y) (hk : k < 3) : (mkc l)[i * 3 + k]? = (m3 y)[k]? := flat_get m3 3 (fun _ => rfl) l i k y h hk

section
variable {F F' : Foot} {w w' : World} {p : RP} {x : RPV}

theorem RAt.keep (h : RAt F w p x) (hk : ∀ k, k < w.heap.size → ¬ F k → w'.heap[k]? = w.heap[k]?) (hF : ∀ k, k < w.heap.size → F' k → F k) : RAt F' w' p x :=
  ⟨RdV.keep h.fs hk hF, h.frs, fun f hf => RdV.keep (h.fb f hf) hk hF, RdV.keep h.ds hk hF, RdV.keep h.ks hk hF, h.kps, fun q hq => RdV.keep (h.kb q hq) hk hF⟩
theorem RAt.below (h : RAt F w p x) (hb : Below w.heap.size w w') : RAt F w' p x := h.keep (fun k hk _ => hb.block k hk) (fun _ _ e => e)

/-- a frame's cells -/
theorem RAt.fcell (h : RAt F w p x) {i : Nat} {f : RFV} (hf : x.fs[i]? = some f) : ∃ g off c, x.fv = .slice (some ⟨g, off, none⟩) x.fs.length c ∧ ∀ k u, k < 6 → (r6 f)[k]? = some u → w.cell? ⟨g, off + i * 6 + k, none⟩ = some u := by
  have hl := (List.getElem?_eq_some_iff.1 hf).1
  obtain ⟨g, off, c, e, -, -, -, -, hc⟩ := h.fs.at_ (by omega)
  exact ⟨g, off, c, e, fun k u hk hu => by rw [Nat.add_assoc]; exact hc _ u (by rw [rfc_get _ i k f hf hk]; exact hu)⟩

def RP.find (p : RP) (n : Int) : Option Nat := p.fr.findIdx? (·.pg == n)
/-- a number of a frame, or -1 -/
def idxV : Option Nat → Int
  | none => -1
  | some i => (i : Int)

theorem findIdx_step {α : Type} (q : α → Bool) (l : List α) (i : Nat) (hno : ∀ (j : Nat) (y : α), l[j]? = some y → j < i → q y = false) (y : α) (hy : l[i]? = some y) (hq : q y = true) : l.findIdx? q = some i := by
  rw [List.findIdx?_eq_some_iff_getElem]
  obtain ⟨hl, he⟩ := List.getElem?_eq_some_iff.1 hy
  exact ⟨hl, by rw [he]; exact hq, fun j hj => by rw [hno j _ (List.getElem?_eq_getElem (by omega)) hj]; simp⟩

/-- a box that holds the pool -/
def PBox (w : World) (b : Nat) (cs : Array Value) : Prop := w.heap[b]? = some (.cells cs 36 (0, 0))
theorem PBox.new (w : World) (cs : Array Value) : PBox (w.alloc (.cells cs 36)) w.heap.size cs := heap_alloc_new w _
theorem PBox.lt {w : World} {b : Nat} {cs : Array Value} (h : PBox w b cs) : b < w.heap.size := (Array.getElem?_eq_some_iff.1 h).1
theorem PBox.cell {w : World} {b : Nat} {cs : Array Value} (h : PBox w b cs) (i : Nat) {v : Value} (hv : cs[i]? = some v) : w.cell? ⟨b, i, none⟩ = some v := (cell_of_row w b i _ _ _ h).trans hv
theorem PBox.frozen {w : World} {b : Nat} {cs : Array Value} (h : PBox w b cs) (i : Nat) : w.frozen? ⟨b, i, none⟩ = false := by unfold PBox at h; simp [World.frozen?, h]
theorem PBox.below {w w' : World} {b B : Nat} {cs : Array Value} (h : PBox w b cs) (hb : Below B w w') (hB : b < B) : PBox w' b cs := (hb.block b hB).trans h

set_option maxHeartbeats 1000000 in
theorem rp_find (h : RAt F w p x) (hsm : p.fr.length ≤ 1024) (n : Int) : Calls Tryz.prog 75 #[.agg (rpcells p x), .int .i64 n] w fun e w' => e = .returned (.int .i64 (idxV (p.find n))) ∧ Below w.heap.size w w' := by
  obtain ⟨w1, hw1⟩ : ∃ w1, w.alloc (.cells (rpcells p x) 36) = w1 := ⟨_, rfl⟩
  have hb1 : Below w.heap.size w w1 := by rw [← hw1]; exact (Below.refl _ _).alloc (Nat.le_refl _) _
  have k1 : PBox w1 w.heap.size (rpcells p x) := by rw [← hw1]; exact PBox.new w _
  obtain ⟨fa, fc, hfv, -, -⟩ := h.fs.form
  have hfl : x.fs.length = p.fr.length := by rw [← h.frs, List.length_map]
  obtain ⟨m, hm⟩ : ∃ m, x.fs.length = m := ⟨_, rfl⟩
  have h1 := h.below hb1
  have q0 : w1.cell? ⟨w.heap.size, 0, none⟩ = some (.slice fa m fc) := k1.cell 0 (by simp [rpcells, hfv, hm])
  obtain ⟨cs, hcs⟩ : ∃ cs, rpcells p x = cs := ⟨_, rfl⟩
  rw [hcs] at hw1 ⊢
  obtain ⟨post, hpost⟩ : ∃ post : Ending → World → Prop, post = fun e w' => e = .returned (.int .i64 (idxV (p.find n))) ∧ Below w.heap.size w w' := ⟨_, rfl⟩
  rw [← hpost]
  have HX := Lib.hid (And.intro h1 (And.intro hb1 (And.intro hfl (And.intro hm (And.intro hfv (And.intro hsm hpost))))))
  have hm0 : (0 : Int) ≤ (m : Int) := by omega
  have hm4 : (m : Int) ≤ 1024 := by omega
  obtain ⟨Bp, hBp⟩ : ∃ Bp, w.heap.size = Bp := ⟨_, rfl⟩
  rw [hBp] at q0
  clear h hb1 k1 hfl hm hfv h1 hsm hpost hcs
  go_enter Tryz.func75, Tryz.ntmps75
  go_wp2_with (first | rw [hw1] | rw [hBp])
  go_loopw [4, 5] (fun _ i wr => ∃ j : Nat, j ≤ m ∧ i = .int .i64 (j : Int) ∧ wr = w1 ∧ ∀ (a : Nat) (f : RF), p.fr[a]? = some f → a < j → f.pg ≠ n) (fun _ i _ => m - (RowKit.intOf i).toNat)
  case atStart => exact ⟨0, Nat.zero_le _, rfl, rfl, fun a f _ ha => absurd ha (by omega)⟩
  case round =>
    obtain ⟨j, hj, rfl, hwr, hno⟩ := hrel
    subst hwr
    obtain ⟨h1, hb1, hfl, hm, hfv, hsm, hpost⟩ := HX.out
    have hj0 : (0 : Int) ≤ (j : Int) := by omega
    rcases Nat.lt_or_eq_of_le hj with hlt | heq
    · obtain ⟨f, hf⟩ : ∃ f, x.fs[j]? = some f := ⟨_, List.getElem?_eq_getElem (by omega)⟩
      obtain ⟨g, off, c, e, hc⟩ := h1.fcell hf
      rw [hfv, hm] at e
      injection e with e1 e2 e3
      subst e1 e3
      have cj := hc 0 _ (by omega) rfl
      rw [Nat.add_zero] at cj
      have hfj : p.fr[j]? = some f.1 := by rw [← h1.frs, List.getElem?_map, hf]; rfl
      obtain ⟨pg, hpg⟩ : ∃ pg, f.1.pg = pg := ⟨_, rfl⟩
      rw [hpg] at cj
      have hji : (j : Int) < (m : Int) := by omega
      by_cases hp : pg = n
      · have hr : post (.returned (.int .i64 (j : Int))) wr := by
          rw [hpost]
          refine ⟨?_, hb1⟩
          unfold RP.find
          rw [findIdx_step _ _ j (fun a f' ha hlt' => by simpa using hno a f' ha hlt') f.1 hfj (by simp [hpg, hp])]
          rfl
        have HF := Lib.hid hr
        subst hp
        clear h1 hb1 hfl hm hfv hsm hno hf hc hfj hpg hr hlt hj hpost
        go_wp2
        exact HF.out
      · have HF := Lib.hid (And.intro hlt (fun (a : Nat) (f' : RF) (ha : p.fr[a]? = some f') (hlt' : a < j + 1) => (show f'.pg ≠ n by
          rcases Nat.lt_or_eq_of_le (Nat.le_of_lt_succ hlt') with h9 | h9
          · exact hno a f' ha h9
          · subst h9
            rw [hfj] at ha
            injection ha with ha
            rw [← ha, hpg]; exact hp)))
        clear h1 hb1 hfl hm hfv hsm hno hf hc hfj hpg hlt hj hpost
        go_wp2
        go_roundw
        case rel => exact ⟨j + 1, by have := HF.out.1; omega, rfl, by trivial, HF.out.2⟩
        case measure => have := HF.out.1; simp [RowKit.intOf]; omega
    · have hr : post (.returned (.int .i64 (-1))) wr := by
        rw [hpost]
        refine ⟨?_, hb1⟩
        unfold RP.find
        rw [List.findIdx?_eq_none_iff.2 (fun f hf => by
          obtain ⟨a, ha, rfl⟩ := List.getElem_of_mem hf
          simpa using hno a _ (List.getElem?_eq_getElem ha) (by omega))]
        rfl
      have HF := Lib.hid hr
      clear h1 hb1 hfl hm hfv hsm hno hr hj hpost
      subst heq
      go_wp2
      exact HF.out
end
end Mun
end

section
/- Pins and pinned of chapter 8's own pool; its rows in memory of a call's own; copied. -/
set_option maxRecDepth 100000
set_option linter.unusedVariables false
set_option linter.unusedSimpArgs false
namespace Mun
open Go Go.RowKit
open Go.Proofs

def RP.pinsOf (p : RP) (n : Int) : Nat := if n < 0 then 0 else match p.find n with | none => 0 | some i => ((p.fr[i]?).map (·.pins)).getD 0
def RP.held (p : RP) (n : Int) : Option Nat := if n < 0 then none else match p.find n with | none => none | some i => if ((p.fr[i]?).map (·.pins)).getD 0 = 0 then none else some i

theorem RP.find_lt {p : RP} {n : Int} {i : Nat} (h : p.find n = some i) : i < p.fr.length := by
  unfold RP.find at h
  exact (List.findIdx?_eq_some_iff_getElem.1 h).1

section
variable {F : Foot} {w : World} {p : RP} {x : RPV}
theorem RAt.at_ (h : RAt F w p x) {i : Nat} (hi : i < p.fr.length) : ∃ f : RFV, x.fs[i]? = some f ∧ p.fr[i]? = some f.1 := by
  have hfl : x.fs.length = p.fr.length := by rw [← h.frs, List.length_map]
  refine ⟨_, List.getElem?_eq_getElem (by omega), ?_⟩
  rw [← h.frs, List.getElem?_map, List.getElem?_eq_getElem (by omega)]
  rfl
theorem info6 : (Tryz.prog.info? 36).map (·.size) = some 6 := by kernel_rfl

set_option maxHeartbeats 1000000 in
theorem rp_pins (h : RAt F w p x) (hsm : p.fr.length ≤ 1024) (n : Int) : Calls Tryz.prog 40 #[.agg (rpcells p x), .int .i64 n] w fun e w' => e = .returned (.int .i64 (p.pinsOf n : Int)) ∧ Below w.heap.size w w' := by
  obtain ⟨w1, hw1⟩ : ∃ w1, w.alloc (.cells (rpcells p x) 36) = w1 := ⟨_, rfl⟩
  have hb1 : Below w.heap.size w w1 := by rw [← hw1]; exact (Below.refl _ _).alloc (Nat.le_refl _) _
  have k1 : PBox w1 w.heap.size (rpcells p x) := by rw [← hw1]; exact PBox.new w _
  have h1 := h.below hb1
  have hfi := rp_find h1 hsm n
  obtain ⟨fa, fc, hfv, -, -⟩ := h1.fs.form
  obtain ⟨m, hm⟩ : ∃ m, x.fs.length = m := ⟨_, rfl⟩
  have hfl : x.fs.length = p.fr.length := by rw [← h.frs, List.length_map]
  obtain ⟨cs, hcs⟩ : ∃ cs, rpcells p x = cs := ⟨_, rfl⟩
  have HI6 : Hid ((Tryz.prog.info? 36).map (·.size) = some cs.size) := by rw [← hcs]; exact info6
  have hc0 : cs[0]? = some (.slice fa m fc) := by rw [← hcs]; simp [rpcells, hfv, hm]
  rw [hcs] at hw1 hfi k1 ⊢
  obtain ⟨post, hpost⟩ : ∃ post : Ending → World → Prop, post = fun e w' => e = .returned (.int .i64 (p.pinsOf n : Int)) ∧ Below w.heap.size w w' := ⟨_, rfl⟩
  rw [← hpost]
  have HK := Lib.hid k1
  have HX := Lib.hid (And.intro h1 (And.intro hb1 (And.intro hfl (And.intro hm (And.intro hfv (And.intro hpost hc0))))))
  have HFI := Lib.hid hfi
  clear h hb1 k1 hfl hm hfv h1 hsm hpost hcs hfi hc0
  go_enter Tryz.func40, Tryz.ntmps40
  go_wp2_with (first | rw [hw1] | (refine wpList_load_row rfl _ _ rfl w.heap.size rfl _ _ (0, 0) _ HK.out Tryz.underlying36 rfl HI6.out ?_))
  refine HFI.out.mono ?_
  rintro e w2 ⟨rfl, hb2⟩
  obtain ⟨h1, hb1, hfl, hm, hfv, hpost, hc0⟩ := HX.out
  have hbb : Below w.heap.size w w2 := hb1.trans (hb2.mono hb1.size)
  have h2 := h1.below hb2
  have q0 : w2.cell? ⟨w.heap.size, 0, none⟩ = some (.slice fa m fc) := ((show PBox w1 w.heap.size cs from HK.out).below hb2 (show PBox w1 w.heap.size cs from HK.out).lt).cell 0 hc0
  by_cases hn : n < 0
  · have HF : Hid (post (.returned (.int .i64 0)) w2) := by
      show post _ _
      rw [hpost]
      refine ⟨?_, hbb⟩
      unfold RP.pinsOf; rw [if_pos hn]; rfl
    clear h1 hb1 hfl hm hfv hpost hbb h2 hb2 q0 hc0
    go_wp2
    exact HF.out
  · cases hf : p.find n with
    | none =>
      have HF : Hid (post (.returned (.int .i64 0)) w2) := by
        show post _ _
        rw [hpost]
        refine ⟨?_, hbb⟩
        unfold RP.pinsOf; rw [if_neg hn, hf]; rfl
      clear h1 hb1 hfl hm hfv hpost hbb h2 hb2 q0 hf hc0
      simp only [idxV]
      go_wp2
      exact HF.out
    | some i =>
      have hil := RP.find_lt hf
      obtain ⟨f, hfx, hfp⟩ := h2.at_ hil
      obtain ⟨g, off, c, e, hc⟩ := h2.fcell hfx
      rw [hfv, hm] at e
      injection e with e1 e2 e3
      subst e1 e3
      have cj := hc 1 _ (by omega) rfl
      have HF : Hid (post (.returned (.int .i64 (f.1.pins : Int))) w2) := by
        show post _ _
        rw [hpost]
        refine ⟨?_, hbb⟩
        unfold RP.pinsOf; rw [if_neg hn, hf]; simp only [hfp]; rfl
      have q1 : (0 : Int) ≤ (i : Int) := by omega
      have q2 : (i : Int) < (m : Int) := by omega
      clear h1 hb1 hfl hm hfv hpost hbb h2 hb2 hf hil hfx hfp hc hc0
      simp only [idxV]
      go_wp2
      exact HF.out

set_option maxHeartbeats 1000000 in
theorem rp_held (h : RAt F w p x) (hsm : p.fr.length ≤ 1024) (n : Int) : Calls Tryz.prog 77 #[.agg (rpcells p x), .int .i64 n] w fun e w' => e = .returned (.int .i64 (idxV (p.held n))) ∧ Below w.heap.size w w' := by
  obtain ⟨w1, hw1⟩ : ∃ w1, w.alloc (.cells (rpcells p x) 36) = w1 := ⟨_, rfl⟩
  have hb1 : Below w.heap.size w w1 := by rw [← hw1]; exact (Below.refl _ _).alloc (Nat.le_refl _) _
  have k1 : PBox w1 w.heap.size (rpcells p x) := by rw [← hw1]; exact PBox.new w _
  have h1 := h.below hb1
  have hfi := rp_find h1 hsm n
  obtain ⟨fa, fc, hfv, -, -⟩ := h1.fs.form
  obtain ⟨m, hm⟩ : ∃ m, x.fs.length = m := ⟨_, rfl⟩
  have hfl : x.fs.length = p.fr.length := by rw [← h.frs, List.length_map]
  obtain ⟨cs, hcs⟩ : ∃ cs, rpcells p x = cs := ⟨_, rfl⟩
  have HI6 : Hid ((Tryz.prog.info? 36).map (·.size) = some cs.size) := by rw [← hcs]; exact info6
  have hc0 : cs[0]? = some (.slice fa m fc) := by rw [← hcs]; simp [rpcells, hfv, hm]
  rw [hcs] at hw1 hfi k1 ⊢
  obtain ⟨post, hpost⟩ : ∃ post : Ending → World → Prop, post = fun e w' => e = .returned (.int .i64 (idxV (p.held n))) ∧ Below w.heap.size w w' := ⟨_, rfl⟩
  rw [← hpost]
  have HK := Lib.hid k1
  have HX := Lib.hid (And.intro h1 (And.intro hb1 (And.intro hfl (And.intro hm (And.intro hfv (And.intro hpost hc0))))))
  have HFI := Lib.hid hfi
  clear h hb1 k1 hfl hm hfv h1 hsm hpost hcs hfi hc0
  go_enter Tryz.func77, Tryz.ntmps77
  go_wp2_with (first | rw [hw1] | (refine wpList_load_row rfl _ _ rfl w.heap.size rfl _ _ (0, 0) _ HK.out Tryz.underlying36 rfl HI6.out ?_))
  refine HFI.out.mono ?_
  rintro e w2 ⟨rfl, hb2⟩
  obtain ⟨h1, hb1, hfl, hm, hfv, hpost, hc0⟩ := HX.out
  have hbb : Below w.heap.size w w2 := hb1.trans (hb2.mono hb1.size)
  have h2 := h1.below hb2
  have q0 : w2.cell? ⟨w.heap.size, 0, none⟩ = some (.slice fa m fc) := ((show PBox w1 w.heap.size cs from HK.out).below hb2 (show PBox w1 w.heap.size cs from HK.out).lt).cell 0 hc0
  by_cases hn : n < 0
  · have HF : Hid (post (.returned (.int .i64 (-1))) w2) := by
      show post _ _
      rw [hpost]
      refine ⟨?_, hbb⟩
      unfold RP.held; rw [if_pos hn]; rfl
    clear h1 hb1 hfl hm hfv hpost hbb h2 hb2 q0 hc0
    go_wp2
    exact HF.out
  · cases hf : p.find n with
    | none =>
      have HF : Hid (post (.returned (.int .i64 (-1))) w2) := by
        show post _ _
        rw [hpost]
        refine ⟨?_, hbb⟩
        unfold RP.held; rw [if_neg hn, hf]; rfl
      clear h1 hb1 hfl hm hfv hpost hbb h2 hb2 q0 hf hc0
      simp only [idxV]
      go_wp2
      exact HF.out
    | some i =>
      have hil := RP.find_lt hf
      obtain ⟨f, hfx, hfp⟩ := h2.at_ hil
      obtain ⟨g, off, c, e, hc⟩ := h2.fcell hfx
      rw [hfv, hm] at e
      injection e with e1 e2 e3
      subst e1 e3
      have cj := hc 1 _ (by omega) rfl
      have q1 : (0 : Int) ≤ (i : Int) := by omega
      have q2 : (i : Int) < (m : Int) := by omega
      by_cases hp : f.1.pins = 0
      · have HF : Hid (post (.returned (.int .i64 (-1))) w2) := by
          show post _ _
          rw [hpost]
          refine ⟨?_, hbb⟩
          unfold RP.held; rw [if_neg hn, hf]; simp only [hfp, Option.map_some, Option.getD_some, if_pos hp]; rfl
        rw [hp] at cj
        clear h1 hb1 hfl hm hfv hpost hbb h2 hb2 hf hil hfx hfp hc hp hc0
        simp only [idxV]
        go_wp2
        exact HF.out
      · have HF : Hid (post (.returned (.int .i64 (i : Int))) w2) := by
          show post _ _
          rw [hpost]
          refine ⟨?_, hbb⟩
          unfold RP.held; rw [if_neg hn, hf]; simp only [hfp, Option.map_some, Option.getD_some, if_neg hp]; rfl
        have hpb : ((f.1.pins : Int) == 0) = false := by simpa using hp
        clear h1 hb1 hfl hm hfv hpost hbb h2 hb2 hf hil hfx hfp hc hp hc0
        simp only [idxV]
        go_wp2
        exact HF.out
end
end Mun
end

section
/- Rows of chapter 8's own pool in memory of a call's own; copied. -/
set_option maxRecDepth 100000
set_option linter.unusedVariables false
set_option linter.unusedSimpArgs false
namespace Mun
open Go Go.RowKit
open Go.Proofs

theorem rinfo_fr : (Tryz.prog.info? 79).map (fun i => (i.zero, i.size, i.bytes)) = some (some (.agg #[.int .i64 0, .int .i64 0, .bool false, .slice none 0 0, .int .u64 0, .bool false]), 6, 64) := by kernel_rfl
theorem rinfo_mk : (Tryz.prog.info? 48).map (fun i => (i.zero, i.size, i.bytes)) = some (some (.agg #[.int .i64 0, .int .u64 0, .bool false]), 3, 24) := by kernel_rfl
theorem rinfo_b : (Tryz.prog.info? 41).map (fun i => (i.zero, i.size, i.bytes)) = some (some (.slice none 0 0), 1, 24) := by kernel_rfl

def RPV.blk (x : RPV) (k : Nat) : Prop := x.fv.ownBlock = some k ∨ x.dv.ownBlock = some k ∨ x.kv.ownBlock = some k

theorem own_form {w : World} {B : Nat} {e : TypeId} {size n : Nat} {v : Value} {xs : List Value} (h : w.ownsRow B e size v n xs) (hn : 0 < n) : ∃ g c, v = .slice (some ⟨g, 0, none⟩) n c ∧ B ≤ g ∧ g < w.heap.size := by
  rcases h.2 with ⟨-, h0⟩ | ⟨g, cap, cur, rfl, hb, hg, -⟩
  · omega
  · exact ⟨g, cap, rfl, hb, (Array.getElem?_eq_some_iff.1 hg).1⟩
theorem own_apart {w : World} {B B' : Nat} {e e' : TypeId} {size size' n n' : Nat} {v v' : Value} {xs xs' : List Value} (h : w.ownsRow B e size v n xs) (h' : w.ownsRow B' e' size' v' n' xs') (hne : e ≠ e') : v.ownBlock = none ∨ v.ownBlock ≠ v'.ownBlock := by
  rcases h.2 with ⟨rfl, -⟩ | ⟨g, cap, cur, rfl, -, hg, -⟩
  · exact .inl rfl
  · refine .inr fun e9 => ?_
    rcases h'.2 with ⟨rfl, -⟩ | ⟨g', cap', cur', rfl, -, hg', -⟩
    · cases e9
    · simp only [Value.ownBlock, Option.some.injEq] at e9
      subst e9
      rw [hg] at hg'
      injection hg' with hg'
      injection hg' with _ hg' _
      exact hne hg'

theorem grown_of_below {w w' : World} (h : Below w.heap.size w w') : w.grownBy w' none := ⟨h.os, h.tape, h.output, h.size, fun k hk _ => h.block k hk⟩
theorem own_below {w w' : World} {B : Nat} {e : TypeId} {size n : Nat} {v : Value} {xs : List Value} (h : w.ownsRow B e size v n xs) (hb : Below w.heap.size w w') : w'.ownsRow B e size v n xs :=
  h.kept (grown_of_below hb) (by cases v.ownBlock <;> simp)
theorem own_lower {w : World} {B B' : Nat} {e : TypeId} {size n : Nat} {v : Value} {xs : List Value} (h : w.ownsRow B e size v n xs) (hB : B' ≤ B) : w.ownsRow B' e size v n xs := ownsRow_base h (fun k hk => Nat.le_trans hB (h.lt k hk).1)

structure RO (F : Foot) (B : Nat) (w : World) (p : RP) (x : RPV) : Prop where
  fs : w.ownsRow B 79 6 x.fv x.fs.length (rfc x.fs)
  frs : x.fs.map (·.1) = p.fr
  fb : ∀ f ∈ x.fs, RdB (fun k => F k ∨ x.blk k) w f.2 f.1.b
  ds : w.ownsRow B 48 3 x.dv p.dt.length (mkc p.dt)
  ks : w.ownsRow B 41 1 x.kv x.ks.length (x.ks.map (·.2))
  kps : x.ks.map (·.1) = p.dk
  kb : ∀ q ∈ x.ks, RdB (fun k => F k ∨ x.blk k) w q.2 q.1
  lo : ∀ k, F k → k < B

section
variable {F F' : Foot} {B : Nat} {w w' : World} {p : RP} {x : RPV}

theorem RO.rat (h : RO F B w p x) (hF : ∀ k, F' k → F k) : RAt F' w p x :=
  ⟨RdV.of_own h.fs (fun k hk hf => by have := h.lo k (hF k hf); omega), h.frs, fun f hf => RdB.mono (h.fb f hf) (fun k _ h9 => .inl (hF k h9)), RdV.of_own h.ds (fun k hk hf => by have := h.lo k (hF k hf); omega),
    RdV.of_own h.ks (fun k hk hf => by have := h.lo k (hF k hf); omega), h.kps, fun q hq => RdB.mono (h.kb q hq) (fun k _ h9 => .inl (hF k h9))⟩
theorem RO.below (h : RO F B w p x) (hb : Below w.heap.size w w') : RO F B w' p x :=
  ⟨own_below h.fs hb, h.frs, fun f hf => (h.fb f hf).below hb, own_below h.ds hb, own_below h.ks hb, h.kps, fun q hq => (h.kb q hq).below hb, h.lo⟩
/-- blocks of F turn -/
theorem RO.keep (h : RO F B w p x) (hk : ∀ k, k < w.heap.size → ¬ F k → w'.heap[k]? = w.heap[k]?) (hs : w.heap.size ≤ w'.heap.size) : RO F B w' p x := by
  have hr : ∀ {e : TypeId} {size n : Nat} {v : Value} {xs : List Value}, w.ownsRow B e size v n xs → w'.ownsRow B e size v n xs := by
    intro e size n v xs h9
    refine ⟨h9.1, ?_⟩
    rcases h9.2 with h8 | ⟨g, cap, cur, rfl, hb, hg, h1, h2, h3, h4⟩
    · exact .inl h8
    · exact .inr ⟨g, cap, cur, rfl, hb, (hk g (Array.getElem?_eq_some_iff.1 hg).1 (fun hf => by have := h.lo g hf; omega)).trans hg, h1, h2, h3, h4⟩
  exact ⟨hr h.fs, h.frs, fun f hf => RdV.keep (h.fb f hf) (fun k hk' hn => hk k hk' (fun h9 => hn (.inl h9))) (fun _ _ h9 => h9), hr h.ds, hr h.ks, h.kps, fun q hq => RdV.keep (h.kb q hq) (fun k hk' hn => hk k hk' (fun h9 => hn (.inl h9))) (fun _ _ h9 => h9), h.lo⟩
theorem RO.base {B' : Nat} (h : RO F B w p x) (hB : B' ≤ B) (hF : ∀ k, F' k → F k) (hlo : ∀ k, F' k → k < B') : RO F' B' w p x :=
  ⟨own_lower h.fs hB, h.frs, fun f hf => RdB.mono (h.fb f hf) (fun k _ h9 => h9.imp (hF k) id), own_lower h.ds hB, own_lower h.ks hB, h.kps, fun q hq => RdB.mono (h.kb q hq) (fun k _ h9 => h9.imp (hF k) id), hlo⟩

/-- frames turn -/
theorem RO.turnF (h : RO F B w p x) (fs' : List RFV) (hg : w.grownBy w' x.fv.ownBlock) (hl : fs'.length = x.fs.length) (ho : w'.ownsRow B 79 6 x.fv x.fs.length (rfc fs'))
    (hb : ∀ f ∈ fs', RdB (fun k => F k ∨ x.blk k) w f.2 f.1.b) : RO F B w' { p with fr := fs'.map (·.1) } { x with fs := fs' } :=
  have hkp : ∀ {v : Value} {l : List UInt8}, RdB (fun k => F k ∨ x.blk k) w v l → RdB (fun k => F k ∨ x.blk k) w' v l := fun h9 => RdV.keep h9 (fun k hk hn => hg.block k hk (fun e => hn (.inr (.inl e.symm)))) (fun _ _ h8 => h8)
  ⟨by show w'.ownsRow B _ 6 x.fv fs'.length _; rw [hl]; exact ho, rfl, fun f hf => hkp (hb f hf), h.ds.kept hg (own_apart h.ds h.fs (by decide)), h.ks.kept hg (own_apart h.ks h.fs (by decide)), h.kps, fun q hq => hkp (h.kb q hq), h.lo⟩
/-- marks turn -/
theorem RO.turnD (h : RO F B w p x) (dt' : List (Int × (Nat × Bool))) (hg : w.grownBy w' x.dv.ownBlock) (hl : dt'.length = p.dt.length) (ho : w'.ownsRow B 48 3 x.dv p.dt.length (mkc dt')) : RO F B w' { p with dt := dt' } x :=
  have hkp : ∀ {v : Value} {l : List UInt8}, RdB (fun k => F k ∨ x.blk k) w v l → RdB (fun k => F k ∨ x.blk k) w' v l := fun h9 => RdV.keep h9 (fun k hk hn => hg.block k hk (fun e => hn (.inr (.inr (.inl e.symm))))) (fun _ _ h8 => h8)
  ⟨h.fs.kept hg (own_apart h.fs h.ds (by decide)), h.frs, fun f hf => hkp (h.fb f hf), by show w'.ownsRow B _ 3 x.dv dt'.length _; rw [hl]; exact ho, h.ks.kept hg (own_apart h.ks h.ds (by decide)), h.kps, fun q hq => hkp (h.kb q hq), h.lo⟩
/-- pages turn -/
theorem RO.turnK (h : RO F B w p x) (ks' : List (Bytes × Value)) (hg : w.grownBy w' x.kv.ownBlock) (hl : ks'.length = x.ks.length) (ho : w'.ownsRow B 41 1 x.kv x.ks.length (ks'.map (·.2)))
    (hb : ∀ q ∈ ks', RdB (fun k => F k ∨ x.blk k) w q.2 q.1) : RO F B w' { p with dk := ks'.map (·.1) } { x with ks := ks' } :=
  have hkp : ∀ {v : Value} {l : List UInt8}, RdB (fun k => F k ∨ x.blk k) w v l → RdB (fun k => F k ∨ x.blk k) w' v l := fun h9 => RdV.keep h9 (fun k hk hn => hg.block k hk (fun e => hn (.inr (.inr (.inr e.symm))))) (fun _ _ h8 => h8)
  ⟨h.fs.kept hg (own_apart h.fs h.ks (by decide)), h.frs, fun f hf => hkp (h.fb f hf), h.ds.kept hg (own_apart h.ds h.ks (by decide)), by show w'.ownsRow B _ 1 x.kv ks'.length _; rw [hl]; exact ho, rfl, fun q hq => hkp (hb q hq), h.lo⟩
/-- the marks are another row, in new memory -/
theorem RO.newD (h : RO F B w p x) (dt' : List (Int × (Nat × Bool))) (dv' : Value) (hb : Below w.heap.size w w') (hB : B ≤ w.heap.size) (ho : w'.ownsRow w.heap.size 48 3 dv' dt'.length (mkc dt')) : RO F B w' { p with dt := dt' } { x with dv := dv' } :=
  have hkp : ∀ {v : Value} {l : List UInt8}, RdB (fun k => F k ∨ x.blk k) w v l → RdB (fun k => F k ∨ RPV.blk { x with dv := dv' } k) w' v l := fun h9 => RdV.keep h9 (fun k hk hn => hb.block k hk) (fun k hk h8 => by
    rcases h8 with h8 | h8 | h8 | h8
    · exact .inl h8
    · exact .inr (.inl h8)
    · have := (ho.lt k h8).1; omega
    · exact .inr (.inr (.inr h8)))
  ⟨own_below h.fs hb, h.frs, fun f hf => hkp (h.fb f hf), own_lower ho hB, own_below h.ks hb, h.kps, fun q hq => hkp (h.kb q hq), h.lo⟩

theorem flat_set {β : Type} (f : β → List Value) (s : Nat) (hf : ∀ y, (f y).length = s) : ∀ (l : List β) (i k : Nat) (y y' : β) (u : Value), l[i]? = some y → k < s → (f y).set k u = f y' → (l.flatMap f).set (i * s + k) u = (l.set i y').flatMap f
  | [], i, k, y, y', u, h, _, _ => by simp at h
  | z :: l, 0, k, y, y', u, h, hk, hu => by
    simp only [List.getElem?_cons_zero, Option.some.injEq] at h
    subst h
    rw [Nat.zero_mul, Nat.zero_add, List.set_cons_zero, List.flatMap_cons, List.flatMap_cons, List.set_append_left _ _ (by rw [hf]; exact hk), hu]
  | z :: l, i + 1, k, y, y', u, h, hk, hu => by
    simp only [List.getElem?_cons_succ] at h
    rw [List.set_cons_succ, List.flatMap_cons, List.flatMap_cons, List.set_append_right _ _ (by rw [hf, Nat.add_mul]; omega), hf, show (i + 1) * s + k - s = i * s + k by rw [Nat.add_mul]; omega, flat_set f s hf l i k y y' u h hk hu]

/-- a frame's cells -/
theorem RO.fcell (h : RO F B w p x) {i : Nat} {f : RFV} (hf : x.fs[i]? = some f) : ∃ g c, x.fv = .slice (some ⟨g, 0, none⟩) x.fs.length c ∧ (B ≤ g ∧ g < w.heap.size) ∧ (∀ k u, k < 6 → (r6 f)[k]? = some u → w.cell? ⟨g, i * 6 + k, none⟩ = some u) ∧ ∀ j, w.frozen? ⟨g, j, none⟩ = false := by
  have hl := (List.getElem?_eq_some_iff.1 hf).1
  obtain ⟨g, c, e, hg, hg2⟩ := own_form h.fs (by omega)
  have ho := h.fs
  rw [e] at ho
  exact ⟨g, c, e, ⟨hg, hg2⟩, fun k u hk hu => by rw [ho.cellAt _ (by omega), rfc_get _ i k f hf hk]; exact hu, ho.frozenAt⟩
theorem RO.setF (h : RO F B w p x) {i k : Nat} {f f' : RFV} {u : Value} (hf : x.fs[i]? = some f) (hk : k < 6) (hu : (r6 f).set k u = r6 f') (hb : RdB (fun q => F q ∨ x.blk q) w f'.2 f'.1.b) {g c : Nat} (hv : x.fv = .slice (some ⟨g, 0, none⟩) x.fs.length c) :
    RO F B (w.setCell ⟨g, i * 6 + k, none⟩ u) { p with fr := p.fr.set i f'.1 } { x with fs := x.fs.set i f' } := by
  have ho := h.fs
  rw [hv] at ho
  obtain ⟨h1, h2⟩ := ho.stored (i * 6 + k) u
  have he : (rfc x.fs).set (i * 6 + k) u = rfc (x.fs.set i f') := flat_set r6 6 (fun _ => rfl) x.fs i k f f' u hf hk hu
  rw [he] at h1
  have h9 := h.turnF (x.fs.set i f') (by rw [hv]; exact h2) (List.length_set) (by rw [hv]; exact h1) (fun f9 hf9 => by
    rcases List.mem_or_eq_of_mem_set hf9 with h8 | rfl
    · exact h.fb f9 h8
    · exact hb)
  rw [List.map_set, h.frs] at h9
  exact h9
/-- a mark's cells -/
theorem RO.dcell (h : RO F B w p x) {i : Nat} {d : Int × (Nat × Bool)} (hd : p.dt[i]? = some d) : ∃ g c, x.dv = .slice (some ⟨g, 0, none⟩) p.dt.length c ∧ (B ≤ g ∧ g < w.heap.size) ∧ (∀ k u, k < 3 → (m3 d)[k]? = some u → w.cell? ⟨g, i * 3 + k, none⟩ = some u) ∧ ∀ j, w.frozen? ⟨g, j, none⟩ = false := by
  have hl := (List.getElem?_eq_some_iff.1 hd).1
  obtain ⟨g, c, e, hg, hg2⟩ := own_form h.ds (by omega)
  have ho := h.ds
  rw [e] at ho
  exact ⟨g, c, e, ⟨hg, hg2⟩, fun k u hk hu => by rw [ho.cellAt _ (by omega), mkc_get _ i k d hd hk]; exact hu, ho.frozenAt⟩
theorem RO.setD (h : RO F B w p x) {i k : Nat} {d d' : Int × (Nat × Bool)} {u : Value} (hd : p.dt[i]? = some d) (hk : k < 3) (hu : (m3 d).set k u = m3 d') {g c : Nat} (hv : x.dv = .slice (some ⟨g, 0, none⟩) p.dt.length c) :
    RO F B (w.setCell ⟨g, i * 3 + k, none⟩ u) { p with dt := p.dt.set i d' } x := by
  have ho := h.ds
  rw [hv] at ho
  obtain ⟨h1, h2⟩ := ho.stored (i * 3 + k) u
  have he : (mkc p.dt).set (i * 3 + k) u = mkc (p.dt.set i d') := flat_set m3 3 (fun _ => rfl) p.dt i k d d' u hd hk hu
  rw [he] at h1
  exact h.turnD (p.dt.set i d') (by rw [hv]; exact h2) (List.length_set) (by rw [hv]; exact h1)
/-- a page's value -/
theorem RO.kcell (h : RO F B w p x) {i : Nat} {q : Bytes × Value} (hq : x.ks[i]? = some q) : ∃ g c, x.kv = .slice (some ⟨g, 0, none⟩) x.ks.length c ∧ (B ≤ g ∧ g < w.heap.size) ∧ w.cell? ⟨g, i, none⟩ = some q.2 ∧ ∀ j, w.frozen? ⟨g, j, none⟩ = false := by
  have hl := (List.getElem?_eq_some_iff.1 hq).1
  obtain ⟨g, c, e, hg, hg2⟩ := own_form h.ks (by omega)
  have ho := h.ks
  rw [e] at ho
  exact ⟨g, c, e, ⟨hg, hg2⟩, by rw [ho.cellAt _ (by omega), List.getElem?_map, hq]; rfl, ho.frozenAt⟩
theorem RO.setK (h : RO F B w p x) {i : Nat} {q : Bytes × Value} (hi : i < x.ks.length) (hb : RdB (fun q => F q ∨ x.blk q) w q.2 q.1) {g c : Nat} (hv : x.kv = .slice (some ⟨g, 0, none⟩) x.ks.length c) :
    RO F B (w.setCell ⟨g, i, none⟩ q.2) { p with dk := p.dk.set i q.1 } { x with ks := x.ks.set i q } := by
  have ho := h.ks
  rw [hv] at ho
  obtain ⟨h1, h2⟩ := ho.stored i q.2
  rw [← List.map_set] at h1
  have h9 := h.turnK (x.ks.set i q) (by rw [hv]; exact h2) (List.length_set) (by rw [hv]; exact h1) (fun q9 hq9 => by
    rcases List.mem_or_eq_of_mem_set hq9 with h8 | rfl
    · exact h.kb q9 h8
    · exact hb)
  rw [List.map_set, h.kps] at h9
  exact h9
end
end Mun
end

section
/- copied of chapter 8's own pool; its working state within a call. -/
set_option maxRecDepth 100000
set_option linter.unusedVariables false
set_option linter.unusedSimpArgs false
namespace Mun
open Go Go.RowKit
open Go.Proofs

/-- append(nil, row...) -/
theorem copy_row {t ty e : TypeId} {z : Value} {size bytes : Nat} (ht : Tryz.prog.underlying t = some (.slice e)) (hinfo : (Tryz.prog.info? e).map (fun i => (i.zero, i.size, i.bytes)) = some (some z, size, bytes)) (hzs : z.cells.size = size) (hsz : 0 < size) (hpos : 0 < bytes) (hb64 : bytes ≤ 64)
    {F : Foot} {w : World} {s : Value} {m : Nat} {ys : List Value} (hs : RdV F w size s m ys) (h1 : ∀ u ∈ ys, u.oneCell' = true) (hm : m ≤ 65536) :
    ∃ v' w', (Builtin.append_ #[t, t] ty #[.slice none 0 0, s]).run Tryz.prog w = .ok v' w' ∧ w'.ownsRow w.heap.size e size v' m ys ∧ Below w.heap.size w w' := by
  obtain ⟨i, hi, hz, h2, h3⟩ := info_of hinfo
  obtain ⟨v', w', hr, ho, hg, hob, -⟩ := run_append_rd (P := Tryz.prog) (base := w.heap.size) (ty := ty) ht hi hz h2 h3 hzs hsz (World.ownsRow_nil w _ e size) hs h1 (by
    rw [Nat.zero_add]
    exact Nat.le_trans (Nat.mul_le_mul hm hb64) (by decide)) hpos (Nat.le_refl _)
  rw [Nat.zero_add, List.nil_append] at ho
  exact ⟨v', w', hr, ho, hg.os, hg.tape, hg.output, hg.size, fun k hk => hg.block k hk (by simp [Value.ownBlock])⟩

theorem rfc_one {F : Foot} {w : World} {l : List RFV} (h : ∀ f ∈ l, RdB F w f.2 f.1.b) : ∀ u ∈ rfc l, u.oneCell' = true := by
  intro u hu
  obtain ⟨f, hf, hu⟩ := List.mem_flatMap.1 hu
  obtain ⟨a, c, e, -, -⟩ := (h f hf).form
  unfold r6 at hu
  rw [e] at hu
  simp only [List.mem_cons, List.mem_nil_iff, or_false] at hu
  rcases hu with rfl | rfl | rfl | rfl | rfl | rfl <;> rfl
theorem mkc_one (l : List (Int × (Nat × Bool))) : ∀ u ∈ mkc l, u.oneCell' = true := by
  intro u hu
  obtain ⟨f, hf, hu⟩ := List.mem_flatMap.1 hu
  unfold m3 at hu
  simp only [List.mem_cons, List.mem_nil_iff, or_false] at hu
  rcases hu with rfl | rfl | rfl <;> rfl
theorem ks_one {F : Foot} {w : World} {l : List (Bytes × Value)} (h : ∀ q ∈ l, RdB F w q.2 q.1) : ∀ u ∈ l.map (·.2), u.oneCell' = true := by
  intro u hu
  obtain ⟨q, hq, rfl⟩ := List.mem_map.1 hu
  obtain ⟨a, c, e, -, -⟩ := (h q hq).form
  rw [e]; rfl

/-- sizes -/
structure RP.Sm (p : RP) : Prop where
  fr : p.fr.length ≤ 1024
  dt : p.dt.length ≤ 1024
  dk : p.dk.length ≤ 1024

def CpPost (F : Foot) (w : World) (p : RP) (x : RPV) (e : Ending) (w' : World) : Prop := ∃ x', e = .returned (.agg (rpcells p x')) ∧ x'.fs = x.fs ∧ x'.ks = x.ks ∧ RO F w.heap.size w' p x' ∧ Below w.heap.size w w'

abbrev Z6 : Array Value := #[.slice none 0 0, .int .i64 0, .slice none 0 0, .slice none 0 0, .int .u64 0, .int .u64 0]

section
variable {F : Foot} {w : World} {p : RP} {x : RPV}

theorem own_slice {w : World} {B : Nat} {e : TypeId} {size n : Nat} {v : Value} {xs : List Value} (h : w.ownsRow B e size v n xs) : ∃ a c, v = .slice a n c := by
  rcases h.2 with ⟨rfl, rfl⟩ | ⟨g, cap, cur, rfl, -⟩
  · exact ⟨_, _, rfl⟩
  · exact ⟨_, _, rfl⟩
theorem rp_one (p : RP) (x : RPV) {a0 a1 a2 : Option Addr} {n0 n1 n2 c0 c1 c2 : Nat} (e0 : x.fv = .slice a0 n0 c0) (e1 : x.dv = .slice a1 n1 c1) (e2 : x.kv = .slice a2 n2 c2) : (rpcells p x).all (·.oneCell') = true := by
  unfold rpcells
  rw [e0, e1, e2]
  simp [Value.oneCell']
theorem RO.one {B : Nat} (h : RO F B w p x) : (rpcells p x).all (·.oneCell') = true := by
  obtain ⟨a0, c0, e0⟩ := own_slice h.fs
  obtain ⟨a1, c1, e1⟩ := own_slice h.ds
  obtain ⟨a2, c2, e2⟩ := own_slice h.ks
  exact rp_one p x e0 e1 e2
theorem RAt.one (h : RAt F w p x) : (rpcells p x).all (·.oneCell') = true := by
  obtain ⟨a0, c0, e0, -, -⟩ := h.fs.form
  obtain ⟨a1, c1, e1, -, -⟩ := h.ds.form
  obtain ⟨a2, c2, e2, -, -⟩ := h.ks.form
  exact rp_one p x e0 e1 e2

theorem setRow_ne (w : World) (b : Nat) (cs : Array Value) (k : Nat) (hk : k ≠ b) : (w.setRow b cs).heap[k]? = w.heap[k]? := by
  have h : b ≠ k := fun e => hk e.symm
  simp [World.setRow, Array.getElem?_modify, h]
theorem setRow_sz (w : World) (b : Nat) (cs : Array Value) : (w.setRow b cs).heap.size = w.heap.size := by simp [World.setRow]
theorem PBox.set {w : World} {b : Nat} {cs : Array Value} (h : PBox w b cs) (i : Nat) (v : Value) : PBox (w.setCell ⟨b, i, none⟩ v) b (cs.setIfInBounds i v) := setCell_blk h v
theorem PBox.setNe {w : World} {b b' : Nat} {cs : Array Value} (h : PBox w b cs) (i : Nat) (v : Value) (hne : b ≠ b') : PBox (w.setCell ⟨b', i, none⟩ v) b cs := (setCell_heap w ⟨b', i, none⟩ v b hne).trans h
theorem PBox.row {w : World} {b : Nat} {old : Array Value} (h : PBox w b old) (cs : Array Value) : PBox (w.setRow b cs) b cs := setRow_heap w b old cs _ _ h
theorem PBox.rowNe {w : World} {b b' : Nat} {cs : Array Value} (h : PBox w b cs) (cs' : Array Value) (hne : b ≠ b') : PBox (w.setRow b' cs') b cs := (setRow_ne w b' cs' b hne).trans h

set_option maxHeartbeats 2000000 in
theorem rp_copied (h : RAt F w p x) (hsm : p.Sm) (hF : ∀ k, F k → k < w.heap.size) : Calls Tryz.prog 74 #[.agg (rpcells p x)] w (CpPost F w p x) := by
  obtain ⟨w1, hw1⟩ : ∃ w1, (w.alloc (.cells (rpcells p x) 36)).alloc (.cells Z6 36) = w1 := ⟨_, rfl⟩
  have hb1 : Below w.heap.size w w1 := by rw [← hw1]; exact below_more (below_more (Below.refl _ _) _) _
  have k0 : PBox w1 w.heap.size (rpcells p x) := by rw [← hw1]; exact (((Below.refl _ _).alloc (Nat.le_refl _) _).block _ (by rw [World.size_alloc]; omega)).trans (PBox.new w _)
  have k1 : PBox w1 (w.heap.size + 1) Z6 := by rw [← hw1]; have := PBox.new (w.alloc (.cells (rpcells p x) 36)) Z6; rw [World.size_alloc] at this; exact this
  have s1 : w1.heap.size = w.heap.size + 2 := by rw [← hw1, World.size_alloc, World.size_alloc]
  have h1 := h.below hb1
  have hfl : x.fs.length = p.fr.length := by rw [← h.frs, List.length_map]
  have hkl : x.ks.length = p.dk.length := by rw [← h.kps, List.length_map]
  -- frames
  obtain ⟨v2, w2, hr2, ho2, hb2⟩ := copy_row (ty := 31) Tryz.underlying31 rinfo_fr rfl (by decide) (by decide) (by decide) h1.fs (rfc_one h1.fb) (by have := hsm.fr; omega)
  have hB2 := hb1.trans (hb2.mono hb1.size)
  obtain ⟨w3, hw3⟩ : ∃ w3, w2.setCell ⟨w.heap.size, 0, none⟩ v2 = w3 := ⟨_, rfl⟩
  have hB3 : Below w.heap.size w w3 := by rw [← hw3]; exact hB2.setCell (Nat.le_refl _) _
  have s3 : w3.heap.size = w2.heap.size := by rw [← hw3, setCell_size]
  have h3 := h.below hB3
  -- marks
  obtain ⟨v4, w4, hr4, ho4, hb4⟩ := copy_row (ty := 32) Tryz.underlying32 rinfo_mk rfl (by decide) (by decide) (by decide) h3.ds (mkc_one _) (by have := hsm.dt; omega)
  have hB4 := hB3.trans (hb4.mono hB3.size)
  obtain ⟨w5, hw5⟩ : ∃ w5, w4.setCell ⟨w.heap.size, 2, none⟩ v4 = w5 := ⟨_, rfl⟩
  have hB5 : Below w.heap.size w w5 := by rw [← hw5]; exact hB4.setCell (Nat.le_refl _) _
  have s5 : w5.heap.size = w4.heap.size := by rw [← hw5, setCell_size]
  have h5 := h.below hB5
  -- pages
  obtain ⟨v6, w6, hr6, ho6, hb6⟩ := copy_row (ty := 33) Tryz.underlying33 rinfo_b rfl (by decide) (by decide) (by decide) h5.ks (ks_one h5.kb) (by have := hsm.dk; omega)
  have hB6 := hB5.trans (hb6.mono hB5.size)
  obtain ⟨w7, hw7⟩ : ∃ w7, w6.setCell ⟨w.heap.size, 3, none⟩ v6 = w7 := ⟨_, rfl⟩
  have hB7 : Below w.heap.size w w7 := by rw [← hw7]; exact hB6.setCell (Nat.le_refl _) _
  have s7 : w7.heap.size = w6.heap.size := by rw [← hw7, setCell_size]
  have z2 := hb2.size
  have z4 := hb4.size
  have z6 := hb6.size
  -- the box
  have k02 := k0.below hb2 k0.lt
  have k03 : PBox w3 w.heap.size ((rpcells p x).setIfInBounds 0 v2) := by rw [← hw3]; exact k02.set 0 v2
  have k04 := k03.below hb4 k03.lt
  have k05 : PBox w5 w.heap.size (((rpcells p x).setIfInBounds 0 v2).setIfInBounds 2 v4) := by rw [← hw5]; exact k04.set 2 v4
  have k06 := k05.below hb6 k05.lt
  have k07 : PBox w7 w.heap.size ((((rpcells p x).setIfInBounds 0 v2).setIfInBounds 2 v4).setIfInBounds 3 v6) := by rw [← hw7]; exact k06.set 3 v6
  have k13 : PBox w3 (w.heap.size + 1) Z6 := by rw [← hw3]; exact (k1.below hb2 k1.lt).setNe 0 _ (by omega)
  have k15 : PBox w5 (w.heap.size + 1) Z6 := by rw [← hw5]; exact (k13.below hb4 k13.lt).setNe 2 _ (by omega)
  have k17 : PBox w7 (w.heap.size + 1) Z6 := by rw [← hw7]; exact (k15.below hb6 k15.lt).setNe 3 _ (by omega)
  have e7 : (((rpcells p x).setIfInBounds 0 v2).setIfInBounds 2 v4).setIfInBounds 3 v6 = rpcells p ⟨v2, v4, v6, x.fs, x.ks⟩ := by simp [rpcells]
  rw [e7] at k07
  obtain ⟨x', hx'⟩ : ∃ x' : RPV, x' = ⟨v2, v4, v6, x.fs, x.ks⟩ := ⟨_, rfl⟩
  rw [← hx'] at k07
  obtain ⟨w8, hw8⟩ : ∃ w8, w7.setRow (w.heap.size + 1) (rpcells p x') = w8 := ⟨_, rfl⟩
  have k18 : PBox w8 (w.heap.size + 1) (rpcells p x') := by rw [← hw8]; exact k17.row _
  have hB8 : Below w.heap.size w w8 := by rw [← hw8]; exact below_setRow hB7 (by omega) _
  have h8 := h.below hB8
  -- the rows at the end
  have kp3 : ∀ k, k < w2.heap.size → k ≠ w.heap.size → w3.heap[k]? = w2.heap[k]? := fun k _ hk => by rw [← hw3]; exact setCell_heap _ _ _ _ hk
  have kp5 : ∀ k, k ≠ w.heap.size → w5.heap[k]? = w4.heap[k]? := fun k hk => by rw [← hw5]; exact setCell_heap _ _ _ _ hk
  have kp7 : ∀ k, k ≠ w.heap.size → w7.heap[k]? = w6.heap[k]? := fun k hk => by rw [← hw7]; exact setCell_heap _ _ _ _ hk
  have kp8 : ∀ k, k ≠ w.heap.size + 1 → w8.heap[k]? = w7.heap[k]? := fun k hk => by rw [← hw8]; exact setRow_ne _ _ _ _ hk
  have kpr : ∀ {wa wb : World} {B : Nat} {e : TypeId} {size n : Nat} {v : Value} {xs : List Value}, w.heap.size + 2 ≤ B → wa.ownsRow B e size v n xs → (∀ k, w.heap.size + 2 ≤ k → k < wa.heap.size → wb.heap[k]? = wa.heap[k]?) → wb.ownsRow B e size v n xs := by
    intro wa wb B e size n v xs hB h9 hk
    refine ⟨h9.1, ?_⟩
    rcases h9.2 with h8 | ⟨g, cap, cur, rfl, hb, hg, h1, h2, h3, h4⟩
    · exact .inl h8
    · exact .inr ⟨g, cap, cur, rfl, hb, (hk g (by omega) (Array.getElem?_eq_some_iff.1 hg).1).trans hg, h1, h2, h3, h4⟩
  have of8 : w8.ownsRow w.heap.size 79 6 v2 x.fs.length (rfc x.fs) := own_lower (kpr (by omega) ho2 (fun k hk hk2 => by
    rw [kp8 k (by omega), kp7 k (by omega), hb6.block k (by omega), kp5 k (by omega), hb4.block k (by omega), kp3 k hk2 (by omega)])) (by omega)
  have od8 : w8.ownsRow w.heap.size 48 3 v4 p.dt.length (mkc p.dt) := own_lower (kpr (by omega) ho4 (fun k hk hk2 => by
    rw [kp8 k (by omega), kp7 k (by omega), hb6.block k (by omega), kp5 k (by omega)])) (by omega)
  have ok8 : w8.ownsRow w.heap.size 41 1 v6 x.ks.length (x.ks.map (·.2)) := own_lower (kpr (by omega) ho6 (fun k hk hk2 => by
    rw [kp8 k (by omega), kp7 k (by omega)])) (by omega)
  have hbl : ∀ k, k < w.heap.size → ¬ RPV.blk x' k := fun k hk h9 => by
    rw [hx'] at h9
    rcases h9 with h9 | h9 | h9
    · have := (of8.lt k h9).1; omega
    · have := (od8.lt k h9).1; omega
    · have := (ok8.lt k h9).1; omega
  have hkpb : ∀ {v : Value} {l : Bytes}, RdB F w v l → RdB (fun k => F k ∨ x'.blk k) w8 v l := fun h9 => RdV.keep h9 (fun k hk _ => hB8.block k hk) (fun k hk h7 => h7.elim id (fun h6 => absurd h6 (hbl k hk)))
  have hfin : Hid (CpPost F w p x (.returned (.agg (rpcells p x'))) w8) := by
    refine ⟨x', rfl, by rw [hx'], by rw [hx'], ?_, hB8⟩
    refine ⟨by rw [hx']; exact of8, by rw [hx']; exact h.frs, fun f hf => hkpb (h.fb f (by rw [hx'] at hf; exact hf)), by rw [hx']; exact od8, by rw [hx']; exact ok8, by rw [hx']; exact h.kps, fun q hq => hkpb (h.kb q (by rw [hx'] at hq; exact hq)), hF⟩
  obtain ⟨a2, c2, e2⟩ := own_slice of8
  obtain ⟨a4, c4, e4⟩ := own_slice od8
  obtain ⟨a6, c6, e6⟩ := own_slice ok8
  have hone : Hid ((rpcells p x').all (·.oneCell') = true) := by rw [hx']; exact rp_one p _ e2 e4 e6
  have HI6 : Hid ((Tryz.prog.info? 36).map (·.size) = some (rpcells p x').size) := by show _ = _; exact info6
  obtain ⟨a0, c0, e0, -, -⟩ := h.fs.form
  obtain ⟨b0, d0, e1, -, -⟩ := h.ds.form
  obtain ⟨f0, g0, e3, -, -⟩ := h.ks.form
  obtain ⟨n0, hn0⟩ : ∃ n0, x.fs.length = n0 := ⟨_, rfl⟩
  obtain ⟨n1, hn1⟩ : ∃ n1, p.dt.length = n1 := ⟨_, rfl⟩
  obtain ⟨n2, hn2⟩ : ∃ n2, x.ks.length = n2 := ⟨_, rfl⟩
  rw [hn0] at e0 e2
  rw [hn1] at e1 e4
  rw [hn2] at e3 e6
  rw [e0, e2] at hr2
  rw [e1, e4] at hr4
  rw [e3, e6] at hr6
  rw [e2] at hw3
  rw [e4] at hw5
  rw [e6] at hw7
  have q0 : w1.cell? ⟨w.heap.size, 0, none⟩ = some (.slice a0 n0 c0) := k0.cell 0 (by simp [rpcells, e0])
  have q2 : w3.cell? ⟨w.heap.size, 2, none⟩ = some (.slice b0 n1 d0) := k03.cell 2 (by simp [rpcells, e1])
  have q3 : w5.cell? ⟨w.heap.size, 3, none⟩ = some (.slice f0 n2 g0) := k05.cell 3 (by simp [rpcells, e3])
  have r0 : w2.cell? ⟨w.heap.size, 0, none⟩ = some (.slice a0 n0 c0) := k02.cell 0 (by simp [rpcells, e0])
  have r2 : w4.cell? ⟨w.heap.size, 2, none⟩ = some (.slice b0 n1 d0) := k04.cell 2 (by simp [rpcells, e1])
  have r3 : w6.cell? ⟨w.heap.size, 3, none⟩ = some (.slice f0 n2 g0) := k06.cell 3 (by simp [rpcells, e3])
  have z0 := k02.frozen 0
  have z2' := k04.frozen 2
  have z3 := k06.frozen 3
  obtain ⟨cs, hcs⟩ : ∃ cs, rpcells p x = cs := ⟨_, rfl⟩
  obtain ⟨cs', hcs'⟩ : ∃ cs', rpcells p x' = cs' := ⟨_, rfl⟩
  rw [hcs] at hw1 ⊢
  rw [hcs'] at hw8 hfin hone HI6 k07 k18
  have HR2 := Lib.hid hr2
  have HR4 := Lib.hid hr4
  have HR6 := Lib.hid hr6
  have HK0 := Lib.hid k07
  have HK1 := Lib.hid k17
  have HK8 := Lib.hid k18
  clear h h1 h3 h5 h8 hF hsm hb1 hb2 hb4 hb6 hB2 hB3 hB4 hB5 hB6 hB7 hB8 k0 k1 k02 k03 k04 k05 k06 k07 k13 k15 k17 k18 e7 kp3 kp5 kp7 kp8 of8 od8 ok8 hbl hkpb ho2 ho4 ho6 hfl hkl hr2 hr4 hr6 kpr s1 s3 s5 s7 z2 z4 z6 hn0 hn1 hn2 e0 e1 e2 e3 e4 e6 hcs hcs' hx'
  unfold Z6 at hw1
  go_enter Tryz.func74, Tryz.ntmps74
  go_wp2_with (first | rw [hw1] | (at_builtin; refine wpList_append_eq rfl rfl HR2.out rfl rfl ?_; clear HR2) | (at_builtin; refine wpList_append_eq rfl rfl HR4.out rfl rfl ?_; clear HR4) | (at_builtin; refine wpList_append_eq rfl rfl HR6.out rfl rfl ?_; clear HR6) | (refine wpList_load_row rfl _ _ rfl w.heap.size rfl _ _ (0, 0) _ HK0.out Tryz.underlying36 rfl HI6.out ?_) | (refine wpList_store_row rfl _ _ _ rfl (w.heap.size + 1) _ rfl rfl _ _ HK1.out HI6.out (by have := HI6.out; rw [info6] at this; injection this) hone.out ?_; rw [hw8]))
  exact bodyPost_ret (by simp [results, Tryz.results74, asAddr, Act.put, run_loadVar_row w8 (w.heap.size + 1) 36 36 _ (0, 0) _ HK8.out Tryz.underlying36 rfl HI6.out]) rfl hfin.out
end
end Mun
end

section
/- The working state of a call over chapter 8's own pool: a copy in a box. -/
set_option maxRecDepth 100000
set_option linter.unusedVariables false
set_option linter.unusedSimpArgs false
namespace Mun
open Go Go.RowKit
open Go.Proofs

/-- the blocks of the call's own boxes -/
def inF (F : Foot) (w0 : World) (B : Nat) : Foot := fun k => F k ∨ (w0.heap.size ≤ k ∧ k < B)

structure RW (F : Foot) (w0 : World) (B : Nat) (w : World) (p : RP) (x : RPV) : Prop where
  bl : Below w0.heap.size w0 w
  box : PBox w w0.heap.size (rpcells p x)
  res : PBox w (w0.heap.size + 1) Z6
  own : RO (inF F w0 B) B w p x
  hB : w0.heap.size + 2 ≤ B
  hF : ∀ k, F k → k < w0.heap.size

/-- what a call leaves -/
def RPost (F : Foot) (w : World) (p' : RP) (e : Ending) (w' : World) : Prop := ∃ x', e = .returned (.agg (rpcells p' x')) ∧ RO F w.heap.size w' p' x' ∧ Below w.heap.size w w'

section
variable {F : Foot} {w0 w w' : World} {B : Nat} {p p' : RP} {x x' : RPV}

theorem RW.below (h : RW F w0 B w p x) (hb : Below w.heap.size w w') : RW F w0 B w' p x :=
  ⟨h.bl.trans (hb.mono h.bl.size), h.box.below hb h.box.lt, h.res.below hb h.res.lt, h.own.below hb, h.hB, h.hF⟩
theorem RW.rat (h : RW F w0 B w p x) : RAt (inF F w0 B) w p x := h.own.rat (fun _ h => h)
theorem RW.lo (h : RW F w0 B w p x) : ∀ k, inF F w0 B k → k < B := h.own.lo
theorem RW.len (h : RW F w0 B w p x) : x.fs.length = p.fr.length ∧ x.ks.length = p.dk.length := ⟨by rw [← h.own.frs, List.length_map], by rw [← h.own.kps, List.length_map]⟩

/-- it begins, behind copied -/
theorem RW.start {wa wb wc : World} (h : RAt F w0 p x) (hF : ∀ k, F k → k < w0.heap.size) (hbl : Below w0.heap.size w0 wa) (hbox : PBox wa w0.heap.size (rpcells p x)) (hres : PBox wa (w0.heap.size + 1) Z6)
    (ho : RO (inF F w0 wa.heap.size) wa.heap.size wb p x') (hb : Below wa.heap.size wa wb) (hc : wb.setRow w0.heap.size (rpcells p x') = wc) : RW F w0 wa.heap.size wc p x' := by
  have h1 := hres.lt
  subst hc
  have hne : w0.heap.size + 1 ≠ w0.heap.size := by omega
  refine ⟨below_setRow (hbl.trans (hb.mono hbl.size)) (Nat.le_refl _) _, (hbox.below hb hbox.lt).row _, (hres.below hb hres.lt).rowNe _ hne, ho.keep (fun k hk hn => setRow_ne _ _ _ _ (fun e => hn (.inr ⟨by omega, by omega⟩))) (by rw [setRow_sz]; exact Nat.le_refl _), by omega, hF⟩
/-- the argument of the call of copied -/
theorem RAt.inF {wa : World} (h : RAt F w0 p x) (hbl : Below w0.heap.size w0 wa) (B : Nat) : RAt (inF F w0 B) wa p x := h.keep (fun k hk _ => hbl.block k hk) (fun k hk h9 => h9.elim id (fun h8 => by omega))
theorem inF_lt {wa : World} (hF : ∀ k, F k → k < w0.heap.size) (hbl : Below w0.heap.size w0 wa) : ∀ k, Mun.inF F w0 wa.heap.size k → k < wa.heap.size := fun k h => h.elim (fun h9 => by have := hF k h9; have := hbl.size; omega) (fun h9 => h9.2)

/-- the box is laid anew: another pool -/
theorem RW.reset (h : RW F w0 B w p x) (ho : RO (inF F w0 B) B w' p' x') (hb : Below w.heap.size w w') : RW F w0 B (w'.setRow w0.heap.size (rpcells p' x')) p' x' := by
  have hB := h.hB
  refine ⟨below_setRow (h.bl.trans (hb.mono h.bl.size)) (Nat.le_refl _) _, (h.box.below hb h.box.lt).row _, (h.res.below hb h.res.lt).rowNe _ (by omega), ho.keep (fun k hk hn => setRow_ne _ _ _ _ (fun e => hn (.inr ⟨by omega, by omega⟩))) (by rw [setRow_sz]; exact Nat.le_refl _), hB, h.hF⟩

/-- a number of the box turns -/
theorem RW.cellS (h : RW F w0 B w p x) (j : Nat) (u : Value) (hc : (rpcells p x).setIfInBounds j u = rpcells p' x) (h1 : p'.fr = p.fr) (h2 : p'.dt = p.dt) (h3 : p'.dk = p.dk) : RW F w0 B (w.setCell ⟨w0.heap.size, j, none⟩ u) p' x := by
  have hB := h.hB
  have hb := h.box.set j u
  rw [hc] at hb
  have ho := h.own.keep (w' := w.setCell ⟨w0.heap.size, j, none⟩ u) (fun k hk hn => setCell_heap _ _ _ _ (fun e => hn (.inr ⟨by simp only at e; omega, by simp only at e; omega⟩))) (by rw [setCell_size]; exact Nat.le_refl _)
  exact ⟨h.bl.setCell (Nat.le_refl _) _, hb, h.res.setNe j u (by omega), ⟨ho.fs, by rw [h1]; exact ho.frs, ho.fb, by rw [h2]; exact ho.ds, ho.ks, by rw [h3]; exact ho.kps, ho.kb, ho.lo⟩, hB, h.hF⟩
/-- a cell behind the boxes turns -/
theorem RW.turn (h : RW F w0 B w p x) (ho : RO (inF F w0 B) B w' p' x') (hsame : ∀ k, k < B → w'.heap[k]? = w.heap[k]?) (hbl : Below w0.heap.size w0 w') (hc : rpcells p' x' = rpcells p x) : RW F w0 B w' p' x' := by
  have hB := h.hB
  exact ⟨hbl, by rw [hc]; exact (hsame _ (by omega)).trans h.box, (hsame _ (by omega)).trans h.res, ho, hB, h.hF⟩
theorem RW.setF (h : RW F w0 B w p x) {i k : Nat} {f f' : RFV} {u : Value} (hf : x.fs[i]? = some f) (hk : k < 6) (hu : (r6 f).set k u = r6 f') (hb : RdB (fun q => inF F w0 B q ∨ x.blk q) w f'.2 f'.1.b) {g c : Nat} (hv : x.fv = .slice (some ⟨g, 0, none⟩) x.fs.length c) :
    RW F w0 B (w.setCell ⟨g, i * 6 + k, none⟩ u) { p with fr := p.fr.set i f'.1 } { x with fs := x.fs.set i f' } := by
  have hB := h.hB
  have hg : B ≤ g := by have := h.own.fs; rw [hv] at this; exact (this.lt g rfl).1
  exact h.turn (h.own.setF hf hk hu hb hv) (fun k hk => setCell_heap _ _ _ _ (by simp only; omega)) (h.bl.setCell (by simp only; omega) _) rfl
theorem RW.setD (h : RW F w0 B w p x) {i k : Nat} {d d' : Int × (Nat × Bool)} {u : Value} (hd : p.dt[i]? = some d) (hk : k < 3) (hu : (m3 d).set k u = m3 d') {g c : Nat} (hv : x.dv = .slice (some ⟨g, 0, none⟩) p.dt.length c) :
    RW F w0 B (w.setCell ⟨g, i * 3 + k, none⟩ u) { p with dt := p.dt.set i d' } x := by
  have hB := h.hB
  have hg : B ≤ g := by have := h.own.ds; rw [hv] at this; exact (this.lt g rfl).1
  exact h.turn (h.own.setD hd hk hu hv) (fun k hk => setCell_heap _ _ _ _ (by simp only; omega)) (h.bl.setCell (by simp only; omega) _) rfl
theorem RW.setK (h : RW F w0 B w p x) {i : Nat} {q : Bytes × Value} (hi : i < x.ks.length) (hb : RdB (fun q => inF F w0 B q ∨ x.blk q) w q.2 q.1) {g c : Nat} (hv : x.kv = .slice (some ⟨g, 0, none⟩) x.ks.length c) :
    RW F w0 B (w.setCell ⟨g, i, none⟩ q.2) { p with dk := p.dk.set i q.1 } { x with ks := x.ks.set i q } := by
  have hB := h.hB
  have hg : B ≤ g := by have := h.own.ks; rw [hv] at this; exact (this.lt g rfl).1
  exact h.turn (h.own.setK hi hb hv) (fun k hk => setCell_heap _ _ _ _ (by simp only; omega)) (h.bl.setCell (by simp only; omega) _) rfl
/-- a frame laid whole -/
theorem RW.setFr (h : RW F w0 B w p x) {i : Nat} (hi : i < x.fs.length) (f' : RFV) (hb : RdB (fun q => inF F w0 B q ∨ x.blk q) w f'.2 f'.1.b) {g c : Nat} (hv : x.fv = .slice (some ⟨g, 0, none⟩) x.fs.length c) :
    w.there g (i * 6) 6 ∧ RW F w0 B (w.setCells g (i * 6) (r6 f')) { p with fr := p.fr.set i f'.1 } { x with fs := x.fs.set i f' } := by
  obtain ⟨f, hf⟩ : ∃ f, x.fs[i]? = some f := ⟨_, List.getElem?_eq_getElem hi⟩
  have h0 : w.there g (i * 6) 6 := by
    obtain ⟨g', c', e, -, h1, h2⟩ := h.own.fcell hf
    rw [hv] at e
    injection e with e1 e2 e3
    injection e1 with e1
    injection e1 with e1
    subst e1
    intro j hj
    refine ⟨?_, h2 _⟩
    have : ∃ u, (r6 f)[j]? = some u := ⟨_, List.getElem?_eq_getElem hj⟩
    obtain ⟨u, hu⟩ := this
    rw [h1 j u hj hu]; rfl
  refine ⟨h0, ?_⟩
  obtain ⟨f1, hf1⟩ : ∃ f1 : RFV, f1 = (⟨f'.1.pg, f.1.pins, f.1.touch, f.1.b, f.1.lsn, f.1.chg⟩, f.2) := ⟨_, rfl⟩
  obtain ⟨f2, hf2⟩ : ∃ f2 : RFV, f2 = (⟨f'.1.pg, f'.1.pins, f.1.touch, f.1.b, f.1.lsn, f.1.chg⟩, f.2) := ⟨_, rfl⟩
  obtain ⟨f3, hf3⟩ : ∃ f3 : RFV, f3 = (⟨f'.1.pg, f'.1.pins, f'.1.touch, f.1.b, f.1.lsn, f.1.chg⟩, f.2) := ⟨_, rfl⟩
  obtain ⟨f4, hf4⟩ : ∃ f4 : RFV, f4 = (⟨f'.1.pg, f'.1.pins, f'.1.touch, f'.1.b, f.1.lsn, f.1.chg⟩, f'.2) := ⟨_, rfl⟩
  obtain ⟨f5, hf5⟩ : ∃ f5 : RFV, f5 = (⟨f'.1.pg, f'.1.pins, f'.1.touch, f'.1.b, f'.1.lsn, f.1.chg⟩, f'.2) := ⟨_, rfl⟩
  have hfb := h.own.fb f (List.mem_of_getElem? hf)
  have hst : ∀ {wq : World} {pq : RP} {xq : RPV} (a b : RFV) (k : Nat) (u : Value), RW F w0 B wq pq xq → xq.fv = x.fv → xq.fs.length = x.fs.length → xq.fs[i]? = some a → k < 6 → (r6 a).set k u = r6 b → RdB (fun q => Mun.inF F w0 B q ∨ xq.blk q) wq b.2 b.1.b →
      RW F w0 B (wq.setCell ⟨g, i * 6 + k, none⟩ u) { pq with fr := pq.fr.set i b.1 } { xq with fs := xq.fs.set i b } := fun a b k u h9 e1 e2 h8 hk hu hb9 => h9.setF h8 hk hu hb9 (c := c) (by rw [e1, hv, e2])
  have hg : x.fv.ownBlock = some g := by rw [hv]; rfl
  have hkp : ∀ {wq : World} {v : Value} {l : Bytes} (j : Nat) (u : Value), RdB (fun q => Mun.inF F w0 B q ∨ x.blk q) wq v l → RdB (fun q => Mun.inF F w0 B q ∨ x.blk q) (wq.setCell ⟨g, j, none⟩ u) v l := fun j u h9 => RdV.keep h9 (fun k hk hn => setCell_heap _ _ _ _ (fun e => hn (.inr (.inl (by rw [hg, e]))))) (fun _ _ h8 => h8)
  have hlen : (x.fs.set i f).length = x.fs.length := List.length_set
  have s0 := hst f f1 0 (.int .i64 f'.1.pg) h rfl rfl hf (by decide) (by rw [hf1]; rfl) (by rw [hf1]; exact hfb)
  have b0 := hkp (i * 6 + 0) (.int .i64 f'.1.pg) hb
  have c0 := hkp (i * 6 + 0) (.int .i64 f'.1.pg) hfb
  have s1 := hst f1 f2 1 (.int .i64 (f'.1.pins : Int)) s0 rfl List.length_set (by simp [hi]) (by decide) (by rw [hf1, hf2]; rfl) (by rw [hf2]; exact c0)
  have b1 := hkp (i * 6 + 1) (.int .i64 (f'.1.pins : Int)) b0
  have c1 := hkp (i * 6 + 1) (.int .i64 (f'.1.pins : Int)) c0
  have s2 := hst f2 f3 2 (.bool f'.1.touch) s1 rfl (by simp) (by simp [hi]) (by decide) (by rw [hf2, hf3]; rfl) (by rw [hf3]; exact c1)
  have b2 := hkp (i * 6 + 2) (.bool f'.1.touch) b1
  have s3 := hst f3 f4 3 f'.2 s2 rfl (by simp) (by simp [hi]) (by decide) (by rw [hf3, hf4]; rfl) (by rw [hf4]; exact b2)
  have b3 := hkp (i * 6 + 3) f'.2 b2
  have s4 := hst f4 f5 4 (.int .u64 (f'.1.lsn : Int)) s3 rfl (by simp) (by simp [hi]) (by decide) (by rw [hf4, hf5]; rfl) (by rw [hf5]; exact b3)
  have b4 := hkp (i * 6 + 4) (.int .u64 (f'.1.lsn : Int)) b3
  have s5 := hst f5 f' 5 (.bool f'.1.chg) s4 rfl (by simp) (by simp [hi]) (by decide) (by rw [hf5]; rfl) b4
  simp only [List.set_set] at s5
  exact s5
/-- it ends -/
theorem RW.ret (h : RW F w0 B w p x) : ∃ w6, w.setRow (w0.heap.size + 1) (rpcells p x) = w6 ∧ PBox w6 (w0.heap.size + 1) (rpcells p x) ∧ RO F w0.heap.size w6 p x ∧ Below w0.heap.size w0 w6 := by
  have hB := h.hB
  refine ⟨_, rfl, h.res.row _, ?_, below_setRow h.bl (by omega) _⟩
  have h9 := h.own.keep (w' := w.setRow (w0.heap.size + 1) (rpcells p x)) (fun k hk hn => setRow_ne _ _ _ _ (fun e => hn (.inr ⟨by omega, by omega⟩))) (by rw [setRow_sz]; exact Nat.le_refl _)
  exact h9.base (by omega) (fun k hk => .inl hk) h.hF
/-- a call gave another pool out of this -/
theorem RW.given (h : RW F w0 B w p x) (hb : Below w.heap.size w w') (hc : (p' = p ∧ x' = x) ∨ RO (inF F w0 B) w.heap.size w' p' x') (hBw : B ≤ w.heap.size) : RO (inF F w0 B) B w' p' x' := by
  rcases hc with ⟨rfl, rfl⟩ | ho
  · exact h.own.below hb
  · exact ho.base hBw (fun _ h => h) h.lo
theorem RW.low (h : RW F w0 B w p x) : inF F w0 B = inF F w0 B := rfl
end

theorem rp_size (p : RP) (x : RPV) : (Tryz.prog.info? 36).map (·.size) = some (rpcells p x).size := info6
theorem infoRF : (Tryz.prog.info? 79).map (·.size) = some 6 := by kernel_rfl
/-- the two boxes of a call -/
theorem rp_boxes (w : World) (cs : Array Value) (hcs : cs.size = 6) : ∃ w1, (w.alloc (.cells cs 36)).alloc (.cells Z6 36) = w1 ∧ Below w.heap.size w w1 ∧ PBox w1 w.heap.size cs ∧ PBox w1 (w.heap.size + 1) Z6 ∧ w1.heap.size = w.heap.size + 2 := by
  refine ⟨_, rfl, below_more (below_more (Below.refl _ _) _) _, (((Below.refl _ _).alloc (Nat.le_refl _) _).block _ (by rw [World.size_alloc]; omega)).trans (PBox.new w _), ?_, by rw [World.size_alloc, World.size_alloc]⟩
  have := PBox.new (w.alloc (.cells cs 36)) Z6
  rw [World.size_alloc] at this
  exact this
end Mun
end
