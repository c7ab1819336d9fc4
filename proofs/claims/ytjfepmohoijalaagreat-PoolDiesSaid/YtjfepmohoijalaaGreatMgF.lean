/- Texts of mine, one behind the other: PageO, Flip, CrcE, PageQ, P9, P10. -/
import Derived.Test.YtjfepmohoijalaaGreatMgE
import Derived.Test.YtjfepmohoijalaaGreatMgD
import Derived.Stop.BytesEq
import Derived.Laws.Cover3
section
/- Plain: the cells of a good page take no more than the room above low; what Insert, Remove, Replace make of a page. No program in sight. -/
set_option linter.unusedVariables false
namespace Mun

/-- x lies in one of the first k cells -/
def inSome (p : PBytes) : Nat → Nat → Bool
  | 0, _ => false
  | k + 1, x => inSome p k x || decide (sFrom p k ≤ x ∧ x < sFrom p k + sSize p k)
/-- the page in which there is room for so many bytes -/
def roomP (p : PBytes) (k : Nat) : PBytes := if lowP p < 26 + 4 * cnt p + k then anewP p else p
/-- slots from i on moved up by one -/
def upP (q : PBytes) (i n : Nat) : PBytes := putAt q (26 + 4 * (i + 1)) (win q (26 + 4 * i) (4 * (n - i)))
def insP (p : PBytes) (i : Nat) (c : PBytes) : PBytes := belowP (pt (upP (roomP p (c.length + 4)) i (cnt p)) 14 2 (cnt p + 1)) i c

/-- what a page with room is -/
structure RoomOk (p q : PBytes) (k : Nat) : Prop where
  len : q.length = 512
  cnt : cnt q = cnt p
  room : 26 + 4 * Mun.cnt p + k ≤ lowP q
  low : lowP q ≤ 512
/-- slots behind i moved down by one, the last one zero -/
def downP (q : PBytes) (i n : Nat) : PBytes := putAt (putAt q (26 + 4 * i) (win q (26 + 4 * (i + 1)) (4 * (n - 1 - i)))) (26 + 4 * (n - 1)) (zer 4)
def remP (p : PBytes) (i : Nat) : PBytes :=
  if cnt p = 1 then pt (pt (downP p i (cnt p)) 14 2 (cnt p - 1)) 16 2 512 else pt (downP p i (cnt p)) 14 2 (cnt p - 1)

/-- the page whose cell i has no bytes -/
def holeP (p : PBytes) (i : Nat) : PBytes := ss p i (lowP p) 0
def repP (p : PBytes) (i : Nat) (c : PBytes) : PBytes :=
  if c.length ≤ sSize p i then ss (putAt p (sFrom p i) c) i (sFrom p i) c.length else belowP (roomP (holeP p i) c.length) i c

end Mun
end

section
/- Plain mathematics: bits that are turned in a row of bytes. -/
namespace Mun

def flipBit (l : List UInt8) (j : Nat) : List UInt8 := l.set (j / 8) (l.getD (j / 8) 0 ^^^ UInt8.ofNat (2 ^ (j % 8)))

/-- so many bits of a row are laid over the bits from k on: where the row has a bit, the bit is turned -/
def flips (l : List UInt8) (k row : Nat) : Nat → List UInt8
  | 0 => l
  | i + 1 => if k + i < 8 * l.length ∧ row.testBit i = true then flipBit (flips l k row i) (k + i) else flips l k row i

end Mun
end

section
/- Plain: the sum reckoned in steps that the kernel can take. -/
set_option linter.unusedVariables false
namespace Mun

def stepN (r : Nat) : Nat := if r % 2 = 1 then (r / 2) ^^^ 0xEDB88320 else r / 2
def iterN : Nat → Nat → Nat
  | 0, r => r
  | n + 1, 0 => 0
  | n + 1, r + 1 => iterN n (stepN (r + 1))
def evalN : List UInt8 → Nat → Nat
  | [], r => r
  | b :: l, r => match iterN 8 (r ^^^ b.toNat) with
    | 0 => evalN l 0
    | q + 1 => evalN l (q + 1)

end Mun
end

section
/- Plain: pages whose head alone differs; sealed pages. No program in sight. -/
set_option linter.unusedVariables false
namespace Mun

theorem win_sub (p : PBytes) (A N a n : Nat) (h1 : A ≤ a) (h2 : a + n ≤ A + N) : win p a n = win (win p A N) (a - A) n := by
  unfold win
  rw [List.drop_take, List.drop_drop, List.take_take]
  congr 1
  · omega
  · congr 1; omega
theorem win_get (q : PBytes) (a : Nat) : q[a]? = (win q a 1)[0]? := by simp [win]

/-- the same but for numbers in the head that tell nothing of the cells -/
structure Same (p q : PBytes) : Prop where
  len : q.length = 512
  mid : win q 12 6 = win p 12 6
  body : win q 26 486 = win p 26 486
theorem Same.win {p q : PBytes} (h : Same p q) (a n : Nat) (ha : 26 ≤ a ∧ a + n ≤ 512 ∨ 12 ≤ a ∧ a + n ≤ 18) : win q a n = win p a n := by
  rcases ha with ha | ha
  · rw [win_sub q 26 486 a n ha.1 (by omega), win_sub p 26 486 a n ha.1 (by omega), h.body]
  · rw [win_sub q 12 6 a n ha.1 (by omega), win_sub p 12 6 a n ha.1 (by omega), h.mid]
theorem Same.cnt {p q : PBytes} (h : Same p q) : cnt q = cnt p := gt_of_win (h.win 14 2 (by omega))
theorem Same.low {p q : PBytes} (h : Same p q) : lowP q = lowP p := gt_of_win (h.win 16 2 (by omega))
theorem Same.slot {p q : PBytes} (h : Same p q) (i : Nat) (hi : 26 + 4 * i + 4 ≤ 512) : sFrom q i = sFrom p i ∧ sSize q i = sSize p i := ⟨gt_of_win (h.win _ 2 (by omega)), gt_of_win (h.win _ 2 (by omega))⟩
theorem Same.good {p q : PBytes} (h : Same p q) (hg : GoodP p) : GoodP q := by
  have hfit := hg.fit
  have hlow := hg.low
  refine ⟨h.len, by rw [win_get, h.win 13 1 (by omega), ← win_get]; exact hg.none, by rw [h.cnt, h.low]; exact hfit, by rw [h.low]; exact hlow, fun i hi => ?_, fun a b hab hb x ⟨h1, h2⟩ => ?_⟩
  · rw [h.cnt] at hi
    have hs := h.slot i (by omega)
    rw [hs.1, hs.2, h.low]
    exact hg.cell i hi
  · rw [h.cnt] at hb
    have ha := h.slot a (by omega)
    have hbb := h.slot b (by omega)
    unfold inC at h1 h2
    rw [ha.1, ha.2] at h1
    rw [hbb.1, hbb.2] at h2
    exact hg.apart a b hab hb x ⟨h1, h2⟩
theorem Same.cell {p q : PBytes} (h : Same p q) (hg : GoodP p) (i : Nat) (hi : i < Mun.cnt p) : cellP q i = cellP p i := by
  have hfit := hg.fit
  have hlow := hg.low
  have hc := hg.cell i hi
  have hs := h.slot i (by omega)
  rw [cellP_win, cellP_win, hs.1, hs.2]
  exact h.win _ _ (by omega)
theorem Same.szs {p q : PBytes} (h : Same p q) (k : Nat) (hk : 26 + 4 * k ≤ 512) : szs q k = szs p k := szs_congr (fun j hj => (h.slot j (by omega)).2)
theorem Same.free {p q : PBytes} (h : Same p q) (hg : GoodP p) : freeP q = freeP p := by
  have hfit := hg.fit
  have hlow := hg.low
  unfold freeP
  rw [h.cnt, h.szs _ (by omega)]

/-- a page of nothing -/
def newP (k : Nat) : PBytes := pt ((zer 512).set 12 (UInt8.ofNat k)) 16 2 512
def lsnP (p : PBytes) (n : Nat) : PBytes := pt p 4 8 n
def sealP (p : PBytes) (n : Nat) : PBytes := pt (lsnP p n) 0 4 (crcOf ((lsnP p n).drop 4)).toNat
def setP (p : PBytes) (l x : Nat) : PBytes := pt (pt p 18 4 l) 22 4 x

theorem seal_len {p : PBytes} (hp : p.length = 512) (n : Nat) : (sealP p n).length = 512 := by
  unfold sealP lsnP
  rw [pt_length _ _ _ _ (by rw [pt_length _ _ _ _ (by omega)]; omega), pt_length _ _ _ _ (by omega), hp]
theorem seal_win {p : PBytes} (hp : p.length = 512) (n a m : Nat) (ha : 12 ≤ a) : win (sealP p n) a m = win p a m := by
  unfold sealP lsnP
  rw [win_pt _ _ _ _ _ _ (by rw [pt_length _ _ _ _ (by omega)]; omega) (by omega), win_pt _ _ _ _ _ _ (by omega) (by omega)]
theorem seal_same {p : PBytes} (hp : p.length = 512) (n : Nat) : Same p (sealP p n) := ⟨seal_len hp n, seal_win hp n _ _ (by omega), seal_win hp n _ _ (by omega)⟩
theorem Same.trans {p q r : PBytes} (h : Same p q) (k : Same q r) : Same p r := ⟨k.len, k.mid.trans h.mid, k.body.trans h.body⟩

theorem gt_seal_lsn {p : PBytes} (hp : p.length = 512) (n : Nat) (hn : n < 18446744073709551616) : gt (sealP p n) 4 8 = n := by
  unfold sealP lsnP
  rw [gt_pt_apart _ _ _ _ _ _ (by rw [pt_length _ _ _ _ (by omega)]; omega) (by omega), gt_pt_same _ _ _ _ (by omega)]
  omega
open Classical in
/-- what is wrong with a page that was read -/
noncomputable def checkP (p : PBytes) : Int := if p = zer 512 then 0 else if ¬ GoodP p then 4 else if gt p 0 4 ≠ (crcOf (p.drop 4)).toNat then 8 else 0

theorem seal_drop {p : PBytes} (hp : p.length = 512) (n : Nat) : (sealP p n).drop 4 = (lsnP p n).drop 4 := by
  have hl : (lsnP p n).length = 512 := by unfold lsnP; rw [pt_length _ _ _ _ (by omega), hp]
  unfold sealP pt
  exact putAt_drop_after _ _ _ _ (by rw [leBytes_length]; omega) (by rw [leBytes_length]; omega)
theorem seal_sum {p : PBytes} (hp : p.length = 512) (n : Nat) : gt (sealP p n) 0 4 = (crcOf ((sealP p n).drop 4)).toNat := by
  have hl : (lsnP p n).length = 512 := by unfold lsnP; rw [pt_length _ _ _ _ (by omega), hp]
  rw [seal_drop hp]
  unfold sealP
  rw [gt_pt_same _ _ _ _ (by omega)]
  have := (crcOf ((lsnP p n).drop 4)).isLt
  omega
theorem check_seal {p : PBytes} (hg : GoodP p) (n : Nat) : checkP (sealP p n) = 0 := by
  have h1 := (seal_same hg.len n).good hg
  have h2 := seal_sum hg.len n
  unfold checkP
  by_cases hz : sealP p n = zer 512
  · rw [if_pos hz]
  · rw [if_neg hz, if_neg (by simpa using h1), if_neg (by simpa using h2)]

end Mun
end

section
/- Contracts of New, Count, Free, clone, Compact, Set, Seal. -/
set_option maxRecDepth 100000
set_option linter.unusedVariables false
set_option linter.unusedSimpArgs false
namespace Mun
open Go Go.RowKit
open Go.Proofs

/-- a page is told, in new memory -/
def PageOut (w : World) (p : PBytes) (e : Ending) (w' : World) : Prop := ∃ g, e = .returned (.tuple #[.slice (some ⟨g, 0, none⟩) 512 512, .int .i64 0]) ∧ PgAt w' g p ∧ w.heap.size ≤ g ∧ Below w.heap.size w w'
def PageNo (w : World) (k : Int) (e : Ending) (w' : World) : Prop := e = .returned (.tuple #[.slice none 0 0, .int .i64 k]) ∧ Below w.heap.size w w'

theorem Bx.fin {w w2 w' : World} {b g : Nat} {p : PBytes} (h : Bx w2 w' b g p) (hB : Below w.heap.size w w2) (hg : w.heap.size ≤ g) : Below w.heap.size w w' :=
  hB.trans (h.chg.below hB.size (fun k hk hk2 => by have : k = g := hk2; omega))

theorem PgAt.rdPart {F : Foot} {w : World} {g : Nat} {p : PBytes} (h : PgAt w g p) (hF : ¬ F g) (lo hi : Nat) (h1 : lo ≤ hi) (h2 : hi ≤ 512) (h3 : lo < 512) : RdB F w (.slice (some ⟨g, lo, none⟩) (hi - lo) (512 - lo)) ((p.drop lo).take (hi - lo)) := by
  have := RdB.part (h.rd hF) lo hi h1 (by rw [h.2]; exact h2)
  rw [if_neg (by omega)] at this
  simpa [addr_add] using this
theorem PgAt.rdFrom {F : Foot} {w : World} {g : Nat} {p : PBytes} (h : PgAt w g p) (hF : ¬ F g) (lo : Nat) (h3 : lo < 512) : RdB F w (.slice (some ⟨g, lo, none⟩) (512 - lo) (512 - lo)) (p.drop lo) := by
  have := h.rdPart hF lo 512 (by omega) (Nat.le_refl _) h3
  rw [List.take_of_length_le (by rw [List.length_drop, h.2]; exact Nat.le_refl _)] at this
  exact this

section
variable {F : Foot} (w : World) (v : Value) (p : List UInt8)

end

theorem PgAt.set {w : World} {g : Nat} {p : PBytes} (h : PgAt w g p) (i : Nat) (b : UInt8) (x : Int) (hx : x = b.toNat) : PgAt (w.setCell ⟨g, i, none⟩ (.int .u8 x)) g (p.set i b) := by
  subst hx
  refine ⟨?_, by rw [List.length_set]; exact h.2⟩
  have h1 := h.1
  simp [World.setCell, Array.getElem?_modify, h1, bobj, bv, List.map_set]

end Mun
end

section
/- Contracts of Seal, Head, Check. -/
set_option maxRecDepth 100000
set_option linter.unusedVariables false
set_option linter.unusedSimpArgs false
namespace Mun
open Go Go.RowKit
open Go.Proofs

theorem seal_no {F : Foot} (w : World) (v : Value) (p : List UInt8) (l : Int) (hv : RdB F w v p) (hg : ¬ GoodP p) : Calls Tryz.prog 59 #[v, .int .u64 l] w (PageNo w 4) := by
  have hgo := copied_no w v p hv hg
  obtain ⟨a, n, c, rfl, HN, -, -⟩ := hv.formN
  have HG := Lib.hid hgo
  clear hgo hv hg HN
  go_enter Tryz.func59, Tryz.ntmps59
  go_wp2_with fail
  refine HG.out.mono ?_
  rintro e w2 ⟨rfl, hb⟩
  have HB := Lib.hid hb
  clear hb
  go_wp2
  go_ret2
  exact ⟨rfl, HB.out.alloc HB.out.size _⟩

set_option maxHeartbeats 1000000 in
theorem seal_yes {F : Foot} (w : World) (v : Value) (p : List UInt8) (l : Nat) (hv : RdB F w v p) (hg : GoodP p) : Calls Tryz.prog 59 #[v, .int .u64 l] w (PageOut w (sealP p l)) := by
  have hgo := copied_yes w v p hv hg
  obtain ⟨a, n, c, rfl, HN, -, -⟩ := hv.formN
  have HG := Lib.hid hgo
  have HSP : Hid (sealP p l = pt (lsnP p l) 0 4 (crcOf ((lsnP p l).drop 4)).toNat) := by show _ = _; rfl
  obtain ⟨q, hq⟩ : ∃ q, lsnP p l = q := ⟨_, rfl⟩
  rw [hq] at HSP
  have HQ := Lib.hid hq
  have hsb : (crcOf (q.drop 4)).toNat < 4294967296 := (crcOf (q.drop 4)).isLt
  obtain ⟨s, hs⟩ : ∃ s, (crcOf (q.drop 4)).toNat = s := ⟨_, rfl⟩
  rw [hs] at HSP hsb
  have HS := Lib.hid hs
  have hwr : IntKind.u64.wrap (s : Int) = (s : Int) := by rw [IntKind.wrap_u64]; omega
  clear hgo hv hg HN hq hs
  go_enter Tryz.func59, Tryz.ntmps59
  go_wp2_with fail
  refine HG.out.mono ?_
  rintro e w2 ⟨g, rfl, hpg, hgs, hb⟩
  have hbx := Bx.start hpg
  have hx := hbx.box
  have HB := Lib.hid (And.intro hbx (And.intro hgs hb))
  clear hpg hgs hb hbx
  go_wp2_with fail
  refine (put_any _ g _ 4 8 4 8 l rfl rfl HB.out.1.pg (by decide) (by decide) (by decide)).mono ?_
  rintro e w3 ⟨rfl, hp3, hc3⟩
  have hbx3 := HB.out.1.step hp3 hc3
  rw [show pt p 4 8 l = q from HQ.out] at hbx3
  have hx3 := hbx3.box
  have hS0 : w3.drew.cell? ⟨w2.heap.size, 0, none⟩ = some (.slice (some ⟨g, 0, none⟩) 512 512) := hx3
  obtain ⟨a3, hsl, ha3⟩ := slice_from g 4 4 rfl (by decide)
  obtain rfl := ha3 (by decide)
  have hof := of_any (F := fun _ => False) w3.drew _ (q.drop 4) (s : Int) (by rw [HS.out]) (PgAt.rdFrom (w := w3.drew) ((hbx3.drew 1).pg) (fun h => h) 4 (by decide))
  have HOF := Lib.hid hof
  have HB3 := Lib.hid hbx3
  clear hp3 hc3 hbx3 hx hof ha3
  go_wp2
  go_region_held_law (fun W => W.cell? ⟨w2.heap.size, 0, none⟩ = some (.slice (some ⟨g, 0, none⟩) 512 512))
    (first | exact hS2 | exact hS0)
    (first
    | ((go_simp; go_at_call 85; refine HOF.out.mono ?_; rintro e W1 ⟨rfl, rfl⟩))
    | ((go_simp; go_at_call 92
        refine (put_any _ g _ 0 4 0 4 s rfl rfl (HB3.out.drew 1).pg (by decide) (by decide) (by decide)).mono ?_
        rintro e W2 ⟨rfl, hp4, hc4⟩
        have hbx4 := (HB3.out.drew 1).step hp4 hc4
        have hS2 := hbx4.box
        have HB4 := Lib.hid hbx4
        clear hp4 hc4 hbx4)))
  go_wp2
  go_ret2
  rw [HSP.out]
  exact ⟨g, rfl, HB4.out.pg, HB.out.2.1, HB4.out.fin HB.out.2.2 HB.out.2.1⟩

end Mun
end
