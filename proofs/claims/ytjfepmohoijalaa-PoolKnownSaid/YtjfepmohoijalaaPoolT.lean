/- What stays true in the walk of PoolPins; Pin there, whatever the page. -/
import Derived.Test.YtjfepmohoijalaaPoolS
import Derived.Test.YtjfepmohoijalaaPoolQ
import Derived.Test.YtjfepmohoijalaaBits
set_option maxRecDepth 100000
set_option linter.unusedVariables false
set_option linter.unusedSimpArgs false
namespace Mun
open Go Go.RowKit
open Go.Proofs

def bcells (D L Pb : Nat) : Array Value := #[.pointer (some ⟨D, 0, none⟩), .pointer (some ⟨L, 0, none⟩), .pointer (some ⟨Pb, 0, none⟩)]
abbrev ZQ (q : Value) : Foot := fun k => qblk q = some k

/-- the law's own memory -/
structure PSm (w0 w : World) (D L Pb Bx : Nat) (q : Value) (v : PLV) (held : List Int) : Prop where
  box : w.heap[Bx]? = some (.cells (bcells D L Pb) 28 (0, 0))
  row : HAt w q held
  below : Below w0.heap.size w0 w
  pf : ∀ k, pfoot Pb v k → w0.heap.size ≤ k
  qf : ∀ k, qblk q = some k → w0.heap.size ≤ k

abbrev PoolL (w : World) (D L Pb : Nat) (q : Value) (Fd : Foot) (p : PM) (v : PLV) : Prop := PoolAt w D L Pb (ZQ q) Fd (DM.new 24 65536) p v

/-- the whole state -/
structure PS (w0 w : World) (D L Pb Bx : Nat) (q : Value) (Fd : Foot) (p : PM) (v : PLV) (held : List Int) (k : Nat) : Prop where
  pool : PoolL w D L Pb q Fd p v
  mem : PSm w0 w D L Pb Bx q v held
  pin : PinI v.fs held k 24
  klen : held.length ≤ k

section
variable {w0 w w' : World} {D L Pb Bx : Nat} {q : Value} {Fd : Foot} {p p' : PM} {v v' : PLV} {held : List Int} {k : Nat}

/-- the pool's blocks are none of the law's -/
theorem PSm.apart (h : PSm w0 w D L Pb Bx q v held) (hp : PoolL w D L Pb q Fd p v) : ¬ pfoot Pb v Bx ∧ (∀ g, qblk q = some g → ¬ pfoot Pb v g) := by
  refine ⟨fun hk => ?_, fun g hg hk => ?_⟩
  · rcases hk with hk | hk | hk | hk
    · exact blk_ne h.box hp.rep.blk (by decide) hk
    · exact blk_ne h.box hp.rep.fbl (by decide) hk
    · exact blk_ne_map h.box hp.rep.mp hk
    · exact blk_ne_map h.box hp.rep.dm hk
  · obtain ⟨cur, hc⟩ := h.row.blk hg
    rcases hk with hk | hk | hk | hk
    · exact blk_ne hc hp.rep.blk (by decide) hk
    · exact blk_ne hc hp.rep.fbl (by decide) hk
    · exact blk_ne_map hc hp.rep.mp hk
    · exact blk_ne_map hc hp.rep.dm hk

/-- the pool has turned, the law's own memory has not -/
theorem PSm.turn (h : PSm w0 w D L Pb Bx q v held) (hp : PoolL w D L Pb q Fd p v) (hc : Chg (pfoot Pb v) (pfoot Pb v) w w') (hv : pfoot Pb v' = pfoot Pb v) : PSm w0 w' D L Pb Bx q v' held := by
  obtain ⟨a1, a2⟩ := h.apart hp
  exact ⟨(hc.block _ (Array.getElem?_eq_some_iff.1 h.box).1 a1).trans h.box, h.row.keep (fun g hg => by
      obtain ⟨cur, hcu⟩ := h.row.blk hg
      exact hc.block g (Array.getElem?_eq_some_iff.1 hcu).1 (a2 g hg)),
    h.below.trans (hc.below h.below.size (fun k hk hf => by have := h.pf k hf; omega)), fun k hk => h.pf k (hv ▸ hk), h.qf⟩

/-- what Pin comes to -/
inductive PinCase (w0 : World) (D L Pb Bx : Nat) (q : Value) (Fd : Foot) (held : List Int) (k n : Nat) (w' : World) : Nat → Int → Prop
  | arg {p : PM} {v : PLV} : 24 ≤ n → PS w0 w' D L Pb Bx q Fd p v held k → PinCase w0 D L Pb Bx q Fd held k n w' 0 1
  | held {p : PM} {v : PLV} {i : Nat} {x : FV} : n < 24 → (n : Int) ∈ held → PoolL w' D L Pb q Fd p v → PSm w0 w' D L Pb Bx q v held → v.fs[i]? = some x → x.1.pg = (n : Int) → x.1.pins = 2 →
      PinI (v.fs.set i ({ x.1 with pins := x.1.pins - 1 }, x.2)) held k 24 → held.length ≤ k → PinCase w0 D L Pb Bx q Fd held k n w' 512 0
  | full {p : PM} {v : PLV} : n < 24 → (n : Int) ∉ held → held.length = k → PS w0 w' D L Pb Bx q Fd p v held k → PinCase w0 D L Pb Bx q Fd held k n w' 0 7
  | new {p : PM} {v : PLV} : n < 24 → (n : Int) ∉ held → held.length < k → PoolL w' D L Pb q Fd p v → PSm w0 w' D L Pb Bx q v held → PinI v.fs (held ++ [(n : Int)]) k 24 → PinCase w0 D L Pb Bx q Fd held k n w' 512 0

theorem PinCase.mem {w0 w' : World} {D L Pb Bx : Nat} {q : Value} {Fd : Foot} {held : List Int} {k n ln : Nat} {ev : Int} (h : PinCase w0 D L Pb Bx q Fd held k n w' ln ev) : (∃ v, PSm w0 w' D L Pb Bx q v held) ∧ held.length ≤ k := by
  cases h with
  | arg _ h => exact ⟨⟨_, h.mem⟩, h.klen⟩
  | held _ _ _ hm _ _ _ _ hk => exact ⟨⟨_, hm⟩, hk⟩
  | full _ _ _ h => exact ⟨⟨_, h.mem⟩, h.klen⟩
  | new _ _ hk _ hm _ => exact ⟨⟨_, hm⟩, Nat.le_of_lt hk⟩

def PinAny (w0 : World) (D L Pb Bx : Nat) (q : Value) (Fd : Foot) (held : List Int) (k n : Nat) (e : Ending) (w' : World) : Prop :=
  ∃ (a : Option Addr) (ln : Nat) (ev : Int), e = .returned (.tuple #[.slice a ln ln, .int .i64 ev]) ∧ PinCase w0 D L Pb Bx q Fd held k n w' ln ev

theorem pin_any (h : PS w0 w D L Pb Bx q Fd p v held k) (n : Nat) : Calls Try.prog 7 #[.pointer (some ⟨Pb, 0, none⟩), .int .i64 n] w (PinAny w0 D L Pb Bx q Fd held k n) := by
  have hbl : (DM.new 24 65536).base.length = 24 := by simp [DM.new]
  have hpz : ∀ n, (DM.new 24 65536).page n = page0 := new_page 24 65536
  have hpi : PinI v.fs held k (DM.new 24 65536).base.length := by rw [hbl]; exact h.pin
  by_cases hn : n < 24
  · by_cases hh : (n : Int) ∈ held
    · obtain ⟨i, x, hx, hp, hpn, hb, hcg⟩ := h.pin.at_ hh
      refine (pin_held h.pool n (by rw [hbl]; exact hn) i x hx hp (by omega) (by rw [hb, page0_length]; omega)).mono ?_
      rintro e w' ⟨g, rfl, ho, hat, hc⟩
      have hil := (List.getElem?_eq_some_iff.1 hx).1
      refine ⟨some ⟨g, 0, none⟩, 512, 0, by rw [hb, page0_length], .held hn hh hat (h.mem.turn h.pool hc rfl) (i := i) (x := pinned x) (by simp [hil]) hp (by show x.1.pins + 1 = 2; omega) ?_ h.klen⟩
      show PinI ((v.fs.set i (pinned x)).set i _) held k 24
      rw [List.set_set]
      refine h.pin.set h.pool.rep.mok (y := ({ (pinned x).1 with pins := (pinned x).1.pins - 1 }, (pinned x).2)) hx rfl rfl rfl (by omega) ?_ h.pin.nd h.pin.rng (fun _ _ => Iff.rfl)
      show x.1.pins + 1 - 1 = _
      rw [hp, if_pos hh]
      omega
    · rcases Nat.lt_or_eq_of_le h.klen with hk | hk
      · refine (pin_new h.pool hpi hpz n (by rw [hbl]; exact hn) hh hk).mono ?_
        rintro e w' ⟨g, p', v', rfl, ho, hat, hi, hft, hc⟩
        exact ⟨_, 512, 0, rfl, .new hn hh hk hat (h.mem.turn h.pool hc hft) (by rw [hbl] at hi; exact hi)⟩
      · refine (pin_full h.pool hpi hpz n (by rw [hbl]; exact hn) hh hk).mono ?_
        rintro e w' ⟨rfl, hat, hc⟩
        exact ⟨none, 0, 7, rfl, .full hn hh hk ⟨hat, h.mem.turn h.pool hc rfl, h.pin, h.klen⟩⟩
  · refine (pin_arg h.pool (n : Int) (by rw [hbl]; omega)).mono ?_
    rintro e w' ⟨rfl, rfl⟩
    exact ⟨none, 0, 1, rfl, .arg (by omega) h⟩

/-- a number laid behind the row of those that are pinned -/
theorem PS.push (hm : PSm w0 w D L Pb Bx q v held) (hp : PoolL w D L Pb q Fd p v) (hl : held.length ≤ 8) (x : Int) (ty : TypeId) :
    ∃ q' w', (Builtin.append_ #[22, 22] ty #[q, .slice (some ⟨w.heap.size, 0, none⟩) 1 1]).run Try.prog (w.alloc (.cells #[.int .i64 x] 3)) = .ok q' w' ∧
      PoolL w' D L Pb q' Fd p v ∧ PSm w0 w' D L Pb Bx q' v (held ++ [x]) ∧ ∃ a c, q' = .slice (some a) (held.length + 1) c := by
  obtain ⟨q', w', hr, hrow, hblk, hk, hsz, ⟨hos, htp, hou⟩, hform⟩ := held_push hm.row (by omega) x ty
  obtain ⟨a1, a2⟩ := hm.apart hp
  have hq' : ∀ g, qblk q' = some g → qblk q = some g ∨ (w.heap.size ≤ g ∧ g < w'.heap.size) := fun g hg => by
    rcases hblk g hg with h1 | h1
    · exact .inl h1
    · obtain ⟨cur, hc⟩ := hrow.blk hg
      exact .inr ⟨h1, (Array.getElem?_eq_some_iff.1 hc).1⟩
  have hkeep : ∀ k, k < w.heap.size → qblk q ≠ some k → w'.heap[k]? = w.heap[k]? := fun k h1 h2 => hk k h1 (fun g hg e => h2 (by rw [hg, e]))
  have hbx := (Array.getElem?_eq_some_iff.1 hm.box).1
  have hbq : qblk q ≠ some Bx := fun e => by
    obtain ⟨cur, hc⟩ := hm.row.blk e
    exact blk_ne hm.box hc (by decide) rfl
  refine ⟨q', w', hr, ⟨?_, ?_, hp.alive⟩, ⟨(hkeep _ hbx hbq).trans hm.box, hrow, ?_, hm.pf, fun g hg => ?_⟩, hform⟩
  · refine hp.disk.frame (fun k h1 h2 => hkeep k h1 (fun e => h2 (.inr e))) hsz (fun k h1 => ?_)
    rcases h1 with h1 | h1
    · exact .inl (.inl h1)
    · rcases hq' k h1 with h2 | h2
      · exact .inl (.inr h2)
      · exact .inr h2
  · refine hp.rep.keep (fun k h1 h2 => ?_) (fun k h1 h2 => ?_)
    · rcases h2 with h2 | h2
      · exact hkeep k h1 (fun e => a2 k e h2)
      · exact hkeep k h1 (fun e => h2 (.inl (.inr e)))
    · rcases h2 with (h2 | h2) | h2
      · exact .inl (.inl h2)
      · rcases hq' k h2 with h3 | h3
        · exact .inl (.inr h3)
        · omega
      · exact .inr h2
  · exact ⟨hos.trans hm.below.os, htp.trans hm.below.tape, hou.trans hm.below.output, Nat.le_trans hm.below.size hsz, fun k hk0 => (hkeep k (by have := hm.below.size; omega) (fun e => by have := hm.qf k e; omega)).trans (hm.below.block k hk0)⟩
  · rcases hq' g hg with h1 | h1
    · exact hm.qf g h1
    · have := hm.below.size; omega

/-- new memory alone -/
theorem PSm.more (h : PSm w0 w D L Pb Bx q v held) (hb : Below w.heap.size w w') : PSm w0 w' D L Pb Bx q v held :=
  ⟨(hb.block _ (Array.getElem?_eq_some_iff.1 h.box).1).trans h.box, h.row.keep (fun g hg => by
      obtain ⟨cur, hcu⟩ := h.row.blk hg
      exact hb.block g (Array.getElem?_eq_some_iff.1 hcu).1), h.below.trans (hb.mono h.below.size), h.pf, h.qf⟩
theorem PS.more (h : PS w0 w D L Pb Bx q Fd p v held k) (hb : Below w.heap.size w w') : PS w0 w' D L Pb Bx q Fd p v held k := ⟨h.pool.below hb, h.mem.more hb, h.pin, h.klen⟩

/-- the first one unpinned -/
theorem PS.first {x : Int} {l : List Int} (h : PS w0 w D L Pb Bx q Fd p v (x :: l) k) : ∃ (i : Nat) (y : FV), v.fs[i]? = some y ∧ y.1.pg = x ∧ y.1.pins = 1 ∧ 0 ≤ x ∧ PinI (v.fs.set i ({ y.1 with pins := y.1.pins - 1 }, y.2)) l k 24 ∧ i < v.fs.length := by
  obtain ⟨i, y, hy, hp, hpn, -, -⟩ := h.pin.at_ (n := x) (List.mem_cons_self ..)
  have hnd := h.pin.nd
  rw [List.nodup_cons] at hnd
  have h0 := (h.pin.rng x (List.mem_cons_self ..)).1
  refine ⟨i, y, hy, hp, hpn, h0, ?_, (List.getElem?_eq_some_iff.1 hy).1⟩
  refine h.pin.set h.pool.rep.mok (y := ({ y.1 with pins := y.1.pins - 1 }, y.2)) hy rfl rfl rfl (by omega) ?_ hnd.2 (fun j hj => h.pin.rng j (List.mem_cons_of_mem _ hj)) (fun j hj => ?_)
  · show y.1.pins - 1 = _
    rw [hp, if_neg hnd.1]
    omega
  · rw [hp] at hj
    simp [hj]

/-- the head cut off -/
theorem PSm.cut {g off c : Nat} {x : Int} {l : List Int} (hm : PSm w0 w D L Pb Bx (.slice (some ⟨g, off, none⟩) (l.length + 1) c) v (x :: l)) : PSm w0 w D L Pb Bx (.slice (some ⟨g, off + 1, none⟩) l.length (c - 1)) v l :=
  ⟨hm.box, hm.row.tail, hm.below, hm.pf, hm.qf⟩
theorem PSm.cut0 {g off : Nat} {x : Int} (hm : PSm w0 w D L Pb Bx (.slice (some ⟨g, off, none⟩) 1 1) v [x]) : PSm w0 w D L Pb Bx (.slice (some ⟨g, off, none⟩) 0 0) v [] := by
  refine ⟨hm.box, ?_, hm.below, hm.pf, hm.qf⟩
  rcases hm.row with ⟨e, _⟩ | ⟨g', off', c', cur, e, h1, h2, h3, h4, h5⟩
  · cases e
  · injection e with e1 e2 e3
    injection e1 with e1
    injection e1 with e1 e4 e5
    subst e1 e3 e4
    exact .inr ⟨g, off, 0, cur, rfl, h1, Nat.zero_le _, Nat.zero_le _, by omega, by simp [zv]⟩
/-- the row's head cut off, as the program writes the slice that is left -/
theorem PS.cut {g off m c : Nat} {x : Int} {l : List Int} (hp : PoolL w D L Pb (.slice (some ⟨g, off, none⟩) m c) Fd p v) (hm : PSm w0 w D L Pb Bx (.slice (some ⟨g, off, none⟩) m c) v (x :: l)) (hl : m = (x :: l).length) (hmc : m ≤ c) (hi : PinI v.fs l k 24) (hk : l.length ≤ k) :
    (c = 1 → PS w0 w D L Pb Bx (.slice (some ⟨g, off, none⟩) (m - 1) 0) Fd p v l k) ∧ (¬ c = 1 → PS w0 w D L Pb Bx (.slice (some ⟨g, off + 1, none⟩) (m - 1) (c - 1)) Fd p v l k) := by
  simp only [List.length_cons] at hl
  subst hl
  refine ⟨fun hc => ?_, fun hc => ?_⟩
  · subst hc
    obtain rfl : l = [] := List.length_eq_zero_iff.1 (by omega)
    exact ⟨hp, hm.cut0, hi, hk⟩
  · exact ⟨hp, hm.cut, hi, hk⟩
end

theorem and_31 (n : Int) : ∃ q : Nat, bits .and .i64 n 31 = (q : Int) ∧ q < 32 := by
  refine ⟨(n % 32).toNat, ?_, by omega⟩
  rw [and_low64 n 5 (by decide) 31 (by decide) (by decide)]
  show n % 32 = _
  omega
end Mun
