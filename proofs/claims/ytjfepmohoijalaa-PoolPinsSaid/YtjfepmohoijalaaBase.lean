/- The seat's own facts on types. -/
import Derived.Test.YtjfepmohoijalaaProg
import Derived.Test.YtjfepmohoijalaaMem
import Derived.KernelRfl
namespace Mun
open Go Go.RowKit
open Go.Proofs

theorem info_u8 : (Try.prog.info? 5).map (fun i => (i.zero, i.size, i.bytes)) = some (some (.int .u8 0), 1, 1) := by kernel_rfl

theorem info_of {P : Program} {e : TypeId} {z : Value} {s b : Nat} (h : (P.info? e).map (fun i => (i.zero, i.size, i.bytes)) = some (some z, s, b)) :
    ∃ i, P.info? e = some i ∧ i.zero = some z ∧ i.size = s ∧ i.bytes = b := by
  cases hi : P.info? e with
  | none => simp [hi] at h
  | some i => simp [hi] at h; exact ⟨i, rfl, h.1, h.2.1, h.2.2⟩

/-- an append of bytes to a row of the call's own -/
theorem append_bytes {F : Foot} {w : World} {base : Nat} {ty : TypeId} {v s : Value} {xs ys : List UInt8} (hown : OwnB w base 5 v xs) (hs : RdB F w s ys)
    (hbytes : xs.length + ys.length ≤ 140737488355328) (hbase : base ≤ w.heap.size) :
    ∃ v' w', (Builtin.append_ #[31, 31] ty #[v, s]).run Try.prog w = .ok v' w' ∧ OwnB w' base 5 v' (xs ++ ys) ∧ w.grownBy w' v.ownBlock ∧
      (v'.ownBlock = v.ownBlock ∨ v'.ownBlock = some w.heap.size) ∧ (v' = .slice none 0 0 ↔ v = .slice none 0 0 ∧ ys.length = 0) := by
  obtain ⟨i, hi, hz, h1, h2⟩ := info_of info_u8
  obtain ⟨v', w', hr, h3, h4, h5, h6⟩ := run_append_rd (P := Try.prog) (ty := ty) Try.underlying31 hi hz h1 h2 (by rfl) (by omega) hown hs (bv_oneCell _) (by omega) (by omega) hbase
  refine ⟨v', w', hr, ?_, h4, h5, h6⟩
  unfold OwnB
  rw [List.length_append, bv_append]
  exact h3

/-- a block of bytes -/
def bobj (l : List UInt8) : Obj := .cells (bv l).toArray 5

theorem bobj_cell (w : World) (l : List UInt8) (i : Nat) (h : i < l.length) : (w.alloc (bobj l)).cell? ⟨w.heap.size, i, none⟩ = some (.int .u8 (l[i].toNat : Int)) := by
  have := cell_of_row (w.alloc (bobj l)) w.heap.size i (bv l).toArray 5 (0, 0) (heap_alloc_new w _)
  rw [this]
  simp [bv, h]

theorem bobj_frozen (w : World) (l : List UInt8) (i : Nat) : (w.alloc (bobj l)).frozen? ⟨w.heap.size, i, none⟩ = false := by
  have : (w.alloc (bobj l)).heap[w.heap.size]? = some (.cells (bv l).toArray 5 (0, 0)) := heap_alloc_new w _
  simp only [World.frozen?, this]
  simp

theorem bobj_set (w : World) (l : List UInt8) (i : Nat) (x : Int) (b : UInt8) (hb : x = b.toNat) : (w.alloc (bobj l)).setCell ⟨w.heap.size, i, none⟩ (.int .u8 x) = w.alloc (bobj (l.set i b)) := by
  subst hb
  unfold bobj
  rw [World.setCell_alloc_new]
  congr 2
  simp [bv, List.map_set]

theorem bobj_rd {F : Foot} (w : World) (l : List UInt8) (c : Nat) (hc : c = l.length) (hm : l.length ≤ maxLen) (hF : ¬ F w.heap.size) : RdB F (w.alloc (bobj l)) (.slice (some ⟨w.heap.size, 0, none⟩) l.length c) l := by
  subst hc
  refine ⟨by simp [bv], _, _, rfl, Nat.le_refl _, hm, by simp, fun _ => ⟨_, 0, _, _, _, rfl, hF, heap_alloc_new w _, ?_⟩⟩
  simp only [List.drop_zero]
  rw [List.take_of_length_le (by simp [bv])]

theorem bobj_own (w : World) (l : List UInt8) (c base : Nat) (hc : c = l.length) (hm : l.length ≤ maxLen) (hB : base ≤ w.heap.size) : OwnB (w.alloc (bobj l)) base 5 (.slice (some ⟨w.heap.size, 0, none⟩) l.length c) l := by
  subst hc
  refine ⟨by simp [bv], .inr ⟨_, _, _, rfl, hB, heap_alloc_new w _, Nat.le_refl _, hm, by simp [bv], ?_⟩⟩
  rw [List.take_of_length_le (by simp [bv])]

theorem madeCells_u8 (n : Nat) : madeCells #[Value.int .u8 0] n = (bv (List.replicate n 0)).toArray := by
  apply Array.ext
  · simp [madeCells, bv]
  · intro i h1 h2
    simp [madeCells, bv, Nat.mod_one]

theorem make_bytes (n c : Nat) (hn : n ≤ c) (hc : c ≤ 140737488355328) (w : World) :
    (Instr.makeSlice 31 (.int .i64 n) (.int .i64 c)).run Try.prog w = .ok (.slice (some ⟨w.heap.size, 0, none⟩) n c) (w.alloc (bobj (List.replicate c 0))) := by
  obtain ⟨i, hi, hz, h1, h2⟩ := info_of info_u8
  have hr := run_make (P := Try.prog) w _ _ i _ Try.underlying31 hi hz .i64 .i64 n c (by omega) (by omega) (by rw [h2]; omega) (by omega)
  rw [hr, h1]
  simp only [Int.toNat_natCast, Nat.mul_one]
  unfold bobj
  rw [show (Value.int IntKind.u8 0).cells = #[Value.int .u8 0] from rfl, madeCells_u8]

theorem make_bytes0 (c : Nat) (hc : c ≤ 140737488355328) (w : World) :
    (Instr.makeSlice 31 (.int .i64 0) (.int .i64 c)).run Try.prog w = .ok (.slice (some ⟨w.heap.size, 0, none⟩) 0 c) (w.alloc (bobj (List.replicate c 0))) :=
  make_bytes 0 c (Nat.zero_le _) hc w

theorem setRow_alloc (w : World) (c d : Array Value) (t : TypeId) : (w.alloc (.cells c t)).setRow w.heap.size d = w.alloc (.cells d t) := by
  simp only [World.setRow, World.alloc]
  congr 1
  apply Array.ext_getElem?
  intro i
  rw [Array.getElem?_modify]
  by_cases h : w.heap.size = i
  · subst h; simp
  · rw [if_neg h]
    by_cases h2 : i < w.heap.size
    · simp [Array.getElem?_push, Ne.symm h]
    · simp [Array.getElem?_push, Ne.symm h]

set_option maxRecDepth 100000 in
/-- make with just the room, then append: the copy -/
theorem copied_bytes {F : Foot} {w : World} {ty : TypeId} {v : Value} {l : List UInt8} (h : RdB F w v l) (hl : l.length ≤ 140737488355328) :
    (Builtin.append_ #[31, 31] ty #[.slice (some ⟨w.heap.size, 0, none⟩) 0 l.length, v]).run Try.prog (w.alloc (bobj (List.replicate l.length 0))) =
      .ok (.slice (some ⟨w.heap.size, 0, none⟩) l.length l.length) (w.alloc (bobj l)) := by
  obtain ⟨i, hi, hz, h1, h2⟩ := info_of info_u8
  have hb : RdB F (w.alloc (bobj (List.replicate l.length 0))) v l := h.below ((Below.refl _ _).alloc (Nat.le_refl _) _)
  rcases Nat.eq_zero_or_pos l.length with h0 | hp
  · obtain rfl : l = [] := List.eq_nil_of_length_eq_zero h0
    have hown : OwnB (w.alloc (bobj [])) w.heap.size 5 (.slice (some ⟨w.heap.size, 0, none⟩) 0 0) [] := bobj_own w [] 0 _ rfl (Nat.zero_le _) (Nat.le_refl _)
    obtain ⟨a, c, rfl, hc1, hc2⟩ := h.form
    have hnil : a = none → c = 0 := by
      obtain ⟨_, a', c', hv, _, _, h3, _⟩ := h
      injection hv with e1 _ e3
      subst e1 e3
      exact h3
    simp only [List.length_nil, List.replicate_zero]
    cases a with
    | none =>
      obtain rfl := hnil rfl
      exact run_append_owned_none (P := Try.prog) (w := w.alloc (bobj [])) _ _ ty _ i 1 Try.underlying31 hi _ 0 [] hown
    | some ad =>
      have hg : (w.alloc (bobj [])).heap[w.heap.size]? = some (.cells #[] 5 (0, 0)) := heap_alloc_new w _
      have hr := run_append_room (P := Try.prog) (w.alloc (bobj [])) 31 ty 5 i Try.underlying31 hi w.heap.size 0 0 #[] hg ad 0 c [] (by simp) (by simp) (by simp) (by omega) (by simp)
      rw [hr]
      congr 1
      simp only [Nat.zero_mul, List.take_zero, List.nil_append, List.length_nil, Nat.add_zero, List.drop_zero]
      exact setRow_self _ w.heap.size #[] _ _ hg
  · obtain ⟨g, off, c, rfl, hc1, hc2, hF, hlt, hcell⟩ := hb.at_ hp
    have hg : (w.alloc (bobj (List.replicate l.length 0))).heap[w.heap.size]? = some (.cells (bv (List.replicate l.length 0)).toArray 5 (0, 0)) := heap_alloc_new w _
    have hr := run_append_room (P := Try.prog) (w.alloc (bobj (List.replicate l.length 0))) 31 ty 5 i Try.underlying31 hi w.heap.size 0 l.length _ hg ⟨g, off, none⟩ l.length c (bv l) (by simp [bv, h1])
      (by
        intro j u hu
        rw [addr_add]
        rw [bv_getElem?] at hu
        have hj : j < l.length := by
          rcases Nat.lt_or_ge j l.length with h | h
          · exact h
          · rw [List.getElem?_eq_none h] at hu; cases hu
        rw [List.getElem?_eq_getElem hj] at hu
        simp only [Option.map_some, Option.some.injEq] at hu
        rw [← hu]
        exact hcell j hj) (bv_oneCell l) (by omega) (by simp [bv])
    rw [hr]
    simp only [Nat.zero_add, Nat.zero_mul, List.take_zero, List.nil_append]
    congr 1
    rw [List.drop_eq_nil_of_le (by simp [bv]), List.append_nil]
    exact setRow_alloc _ _ _ _
/-- a part of what reads -/
theorem RdB.part {F : Foot} {w : World} {a : Option Addr} {n c : Nat} {l : List UInt8} (h : RdB F w (.slice a n c) l) (lo hi : Nat) (h1 : lo ≤ hi) (h2 : hi ≤ l.length) :
    RdB F w (.slice (if c = lo then a else a.map (·.add lo)) (hi - lo) (c - lo)) ((l.drop lo).take (hi - lo)) := by
  obtain ⟨h0, a', c', hv, hc1, hc2, hnil, h4⟩ := h
  injection hv with e1 e2 e3
  subst e1 e2 e3
  have hlen : ((l.drop lo).take (hi - lo)).length = hi - lo := by rw [List.length_take, List.length_drop]; omega
  refine ⟨by rw [hlen, bv_length, hlen]; omega, _, _, by rw [hlen], by omega, by omega, ?_, ?_⟩
  · intro hn
    split at hn
    · have := hnil hn; omega
    · cases a with
      | none => have := hnil rfl; omega
      | some _ => simp at hn
  · intro hp
    rw [hlen] at hp
    obtain ⟨g, off, cur, e, fr, ha, hg, hh, hx⟩ := h4 (by omega)
    subst ha
    refine ⟨g, off + lo, cur, e, fr, ?_, hg, hh, ?_⟩
    · rw [if_neg (by omega)]
      simp only [Option.map_some, addr_add]
    · have e1 : bv ((l.drop lo).take (hi - lo)) = ((bv l).drop lo).take (hi - lo) := by simp [bv, List.map_take, List.map_drop]
      rw [hlen, e1, ← hx, List.drop_take, List.take_take, List.drop_drop]
      congr 1
      omega


/-- the run of a cut -/
theorem slice_bytes {F : Foot} {w : World} {a : Option Addr} {n c : Nat} {l : List UInt8} (h : RdB F w (.slice a n c) l) (lo hi : Nat) (L H : Int) (hL : L = lo) (hH : H = hi) (h1 : lo ≤ hi) (h2 : hi ≤ l.length) :
    ∃ a1 c1, (∀ W, (Instr.sliceAt 31 (.slice a n c) (some (.int .i64 L)) (some (.int .i64 H)) none).run Try.prog W = .ok (.slice a1 (hi - lo) c1) W) ∧
      RdB F w (.slice a1 (hi - lo) c1) ((l.drop lo).take (hi - lo)) := by
  subst hL
  subst hH
  have hp := h.part lo hi h1 h2
  obtain ⟨a', c', hv, hc1, hc2⟩ := h.form
  injection hv with e1 e2 e3
  subst e1 e2 e3
  refine ⟨_, _, fun W => ?_, hp⟩
  obtain ⟨i, hi', hz, hs1, hs2⟩ := info_of info_u8
  have he : Try.prog.elem 31 = 5 := by kernel_rfl
  have ht : Try.prog.underlying 31 = some (.slice (Try.prog.elem 31)) := by rw [he]; exact Try.underlying31
  rw [run_sliceAt_slice _ _ _ _ _ _ ht, run_slice_lh _ _ _ _ _ ht _ _ _ _ (by omega) (by omega) (by omega), he]
  simp [Go.sizeOf, typeInfo, hi', hs1, sliced]


/-- one byte, as the walk writes it -/
theorem bobj_one (w : World) (b : UInt8) (x : Int) (hx : x = b.toNat) : w.alloc (.cells #[Value.int .u8 x] 5) = w.alloc (bobj [b]) := by
  subst hx; rfl


theorem conv_bytes (w : World) (C : Array Value) (g n c : Nat) (hg : g = w.heap.size) :
    (convert 31 31 (.slice (some ⟨g, 0, none⟩) n c)).run Try.prog (w.alloc (.cells C 5)) = .ok (.slice (some ⟨g, 0, none⟩) n c) (w.alloc (.cells C 5 (C.size, C.size + 1))) := by
  subst hg
  exact Lib.run_convert_bytes_const (P := Try.prog) w 31 5 C n c Try.underlying31 Try.underlying5

/-- a block of bytes that the walk has written out reads as them -/
theorem lit_rd {F : Foot} (w : World) (C : Array Value) (fr : Nat × Nat) (l : List UInt8) (hC : C.toList = bv l) (g n c : Nat) (hg : g = w.heap.size) (hn : n = l.length) (hc : c = l.length) (hm : l.length ≤ maxLen) (hF : ¬ F w.heap.size) :
    RdB F (w.alloc (.cells C 5 fr)) (.slice (some ⟨g, 0, none⟩) n c) l := by
  subst hg
  subst hn
  subst hc
  refine ⟨by simp [bv], _, _, rfl, Nat.le_refl _, hm, by simp, fun _ => ⟨_, 0, _, _, _, rfl, hF, heap_alloc_new w _, ?_⟩⟩
  simp only [List.drop_zero]
  rw [hC, List.take_of_length_le (by simp [bv])]


/-- string(b) -/
theorem str_bytes {F : Foot} {w : World} {v : Value} {l : List UInt8} (h : RdB F w v l) : (convert 31 9 v).run Try.prog w = .ok (.string (strOf l)) w := by
  obtain ⟨h0, a, c, rfl, hc1, hc2, hnil, h4⟩ := h
  cases a with
  | none =>
    have : c = 0 := hnil rfl
    obtain rfl : l = [] := List.eq_nil_of_length_eq_zero (by omega)
    rw [run_convert_bytes_string w _ _ 5 none _ c Try.underlying31 Try.underlying5 Try.underlying9]
    rfl
  | some ad =>
    refine run_convert_bytes_back w _ _ 5 ad c l Try.underlying31 Try.underlying5 Try.underlying9 (fun j hj => ?_)
    obtain ⟨g, off, cur, e, fr, ha, hg, hh, hx⟩ := h4 (by omega)
    injection ha with ha
    subst ha
    rw [addr_add, cell_of_row w g (off + j) cur e fr hh]
    have := congrArg (fun x => x[j]?) hx
    simp only [bv_getElem?, List.getElem?_eq_getElem hj, Option.map_some] at this
    rw [List.getElem?_take, if_pos (by omega), List.getElem?_drop] at this
    simpa using this

theorem strOf_toList (l : List UInt8) : (strOf l).toList = l := by
  rw [ByteArray.toList_eq]; rfl

theorem strOf_eq (a b : List UInt8) : ((strOf a).toList == (strOf b).toList) = decide (a = b) := by
  rw [strOf_toList, strOf_toList]
  by_cases h : a = b
  · subst h; simp
  · rw [decide_eq_false h]; simpa using h


theorem OwnB.nil (w : World) (base : Nat) (e : TypeId) : OwnB w base e (.slice none 0 0) [] := World.ownsRow_nil w base e 1

/-- append(nil, b...) -/
theorem append_nil_bytes {F : Foot} {w : World} {ty : TypeId} {s : Value} {ys : List UInt8} (hs : RdB F w s ys) (hbytes : ys.length ≤ 140737488355328) (hpos : 0 < ys.length) :
    ∃ g cap w', (Builtin.append_ #[31, 31] ty #[.slice none 0 0, s]).run Try.prog w = .ok (.slice (some ⟨g, 0, none⟩) ys.length cap) w' ∧
      OwnB w' w.heap.size 5 (.slice (some ⟨g, 0, none⟩) ys.length cap) ys ∧ Below w.heap.size w w' ∧ w.heap.size ≤ g := by
  obtain ⟨v3, w3, hr, ho, hgr, hob, hnil⟩ := append_bytes (base := w.heap.size) (ty := ty) (OwnB.nil w w.heap.size 5) hs (by simpa using hbytes) (Nat.le_refl _)
  rw [List.nil_append] at ho
  obtain ⟨g, cap, hvv, hg1, _⟩ := ho.at_ hpos
  subst hvv
  exact ⟨g, cap, w3, hr, ho, (Below.refl _ _).grown hgr (Nat.le_refl _) (fun k hk => by simp [Value.ownBlock] at hk), hg1⟩


/-- append([]byte{}, b...): an empty block of the call's own first -/
theorem append_empty_bytes {F : Foot} {w : World} {ty : TypeId} {s : Value} {ys : List UInt8} (hs : RdB F w s ys) (hbytes : ys.length ≤ 140737488355328) :
    ∃ g cap w', (Builtin.append_ #[31, 31] ty #[.slice (some ⟨w.heap.size, 0, none⟩) 0 0, s]).run Try.prog (w.alloc (.cells #[] 5)) = .ok (.slice (some ⟨g, 0, none⟩) ys.length cap) w' ∧
      OwnB w' w.heap.size 5 (.slice (some ⟨g, 0, none⟩) ys.length cap) ys ∧ Below w.heap.size w w' ∧ w.heap.size ≤ g := by
  have hb : Below w.heap.size w (w.alloc (.cells #[] 5)) := (Below.refl _ _).alloc (Nat.le_refl _) _
  have hown : OwnB (w.alloc (.cells #[] 5)) w.heap.size 5 (.slice (some ⟨w.heap.size, 0, none⟩) 0 0) [] := bobj_own w [] 0 _ rfl (Nat.zero_le _) (Nat.le_refl _)
  obtain ⟨v3, w3, hr, ho, hgr, hob, hnil⟩ := append_bytes (ty := ty) hown (hs.below hb) (by simpa using hbytes) (by simp)
  rw [List.nil_append] at ho
  have hB : Below w.heap.size w w3 := hb.grown hgr (by simp) (fun k hk => by simp [Value.ownBlock] at hk; omega)
  rcases ho.2 with ⟨rfl, _⟩ | ⟨g, cap, cur, rfl, hbg, rest⟩
  · simp at hnil
  · exact ⟨g, cap, w3, hr, ho, hB, hbg⟩


/-- an append of one byte to a row of the call's own -/
theorem append_byte {w : World} {base : Nat} {ty : TypeId} {v : Value} {xs : List UInt8} (b : UInt8) (x : Int) (hx : x = b.toNat) (hown : OwnB w base 5 v xs)
    (hbytes : xs.length + 1 ≤ 140737488355328) (hbase : base ≤ w.heap.size) :
    ∃ g cap w', (Builtin.append_ #[31, 31] ty #[v, .slice (some ⟨w.heap.size, 0, none⟩) 1 1]).run Try.prog (w.alloc (.cells #[.int .u8 x] 5)) = .ok (.slice (some ⟨g, 0, none⟩) (xs.length + 1) cap) w' ∧
      OwnB w' base 5 (.slice (some ⟨g, 0, none⟩) (xs.length + 1) cap) (xs ++ [b]) ∧ (w.alloc (.cells #[.int .u8 x] 5)).grownBy w' v.ownBlock ∧ base ≤ g ∧ xs.length + 1 ≤ cap ∧ (v.ownBlock = some g ∨ w.heap.size < g) := by
  have hx' : RdB (fun _ => False) (w.alloc (.cells #[.int .u8 x] 5)) (.slice (some ⟨w.heap.size, 0, none⟩) 1 1) [b] := lit_rd w _ _ [b] (by rw [hx]; rfl) _ _ _ rfl rfl rfl (by simp [maxLen]) (fun h => h)
  obtain ⟨v', w', hr, h1, h2, h3, h4⟩ := append_bytes (ty := ty) (World.ownsRow.alloc hown _) hx' (by simpa using hbytes) (by simp; omega)
  obtain ⟨g, cap, hv, hg1, hg2, hg3, hg4, _⟩ := h1.at_ (by simp)
  subst hv
  simp only [List.length_append, List.length_cons, List.length_nil, Nat.zero_add] at hr h1 hg3
  refine ⟨g, cap, w', hr, h1, h2, hg1, hg3, ?_⟩
  rcases h3 with h | h
  · exact .inl h.symm
  · simp [Value.ownBlock] at h; exact .inr (by omega)

/-- the run of a cut at the end -/
theorem slice_to (a : Option Addr) (n c m : Nat) (M : Int) (hM : M = m) (hm : m ≤ c) (ha : a = none ∨ ∃ g off, a = some ⟨g, off, none⟩) (W : World) :
    (Instr.sliceAt 31 (.slice a n c) none (some (.int .i64 M)) none).run Try.prog W = .ok (.slice a m c) W := by
  subst hM
  obtain ⟨i, hi', hz, hs1, hs2⟩ := info_of info_u8
  have he : Try.prog.elem 31 = 5 := by kernel_rfl
  have ht : Try.prog.underlying 31 = some (.slice (Try.prog.elem 31)) := by rw [he]; exact Try.underlying31
  rw [run_sliceAt_slice _ _ _ _ _ _ ht, run_slice_h _ _ _ _ _ ht _ _ (by omega) (by omega), he]
  have hadd : (if c = 0 then a else a.map (·.add 0)) = a := by
    split
    · rfl
    · rcases ha with rfl | ⟨g, off, rfl⟩
      · rfl
      · simp [addr_add]
  simp [Go.sizeOf, typeInfo, hi', hs1, sliced]
  cases a with
  | none => simp
  | some x => simp [Addr.add]

end Mun
