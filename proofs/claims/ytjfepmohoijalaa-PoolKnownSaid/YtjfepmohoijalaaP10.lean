/- Contracts of Seal, Head, Check. -/
import Derived.Test.YtjfepmohoijalaaP9
import Derived.Stop.BytesEq
import Derived.Laws.Cover3
set_option maxRecDepth 100000
set_option linter.unusedVariables false
set_option linter.unusedSimpArgs false
namespace Mun
open Go Go.RowKit
open Go.Proofs

theorem seal_no {F : Foot} (w : World) (v : Value) (p : List UInt8) (l : Int) (hv : RdB F w v p) (hg : ¬ GoodP p) : Calls Try.prog 24 #[v, .int .u64 l] w (PageNo w 4) := by
  have hgo := copied_no w v p hv hg
  obtain ⟨a, n, c, rfl, HN, -, -⟩ := hv.formN
  have HG := Lib.hid hgo
  clear hgo hv hg HN
  go_enter Try.func24, Try.ntmps24
  go_wp2_with fail
  refine HG.out.mono ?_
  rintro e w2 ⟨rfl, hb⟩
  have HB := Lib.hid hb
  clear hb
  go_wp2
  go_ret2
  exact ⟨rfl, HB.out.alloc HB.out.size _⟩

set_option maxHeartbeats 1000000 in
theorem seal_yes {F : Foot} (w : World) (v : Value) (p : List UInt8) (l : Nat) (hv : RdB F w v p) (hg : GoodP p) : Calls Try.prog 24 #[v, .int .u64 l] w (PageOut w (sealP p l)) := by
  have hgo := copied_yes w v p hv hg
  obtain ⟨a, n, c, rfl, HN, -, -⟩ := hv.formN
  have HG := Lib.hid hgo
  have HSP : Hid (sealP p l = pt (lsnP p l) 0 4 (crcOf ((lsnP p l).drop 4)).toNat) := by show _ = _; rfl
  obtain ⟨q, hq⟩ : ∃ q, lsnP p l = q := ⟨_, rfl⟩
  rw [hq] at HSP
  have HQ := Lib.hid hq
  have hsb : (crcOf (q.drop 4)).toNat < 4294967296 := (crcOf (q.drop 4)).isLt
  obtain ⟨s, hs⟩ : ∃ s, (crcOf (q.drop 4)).toNat = s := ⟨_, rfl⟩
  rw [hs] at HSP hsb
  have HS := Lib.hid hs
  have hwr : IntKind.u64.wrap (s : Int) = (s : Int) := by rw [IntKind.wrap_u64]; omega
  clear hgo hv hg HN hq hs
  go_enter Try.func24, Try.ntmps24
  go_wp2_with fail
  refine HG.out.mono ?_
  rintro e w2 ⟨g, rfl, hpg, hgs, hb⟩
  have hbx := Bx.start hpg
  have hx := hbx.box
  have HB := Lib.hid (And.intro hbx (And.intro hgs hb))
  clear hpg hgs hb hbx
  go_wp2_with fail
  refine (put_any _ g _ 4 8 4 8 l rfl rfl HB.out.1.pg (by decide) (by decide) (by decide)).mono ?_
  rintro e w3 ⟨rfl, hp3, hc3⟩
  have hbx3 := HB.out.1.step hp3 hc3
  rw [show pt p 4 8 l = q from HQ.out] at hbx3
  have hx3 := hbx3.box
  have hS0 : w3.drew.cell? ⟨w2.heap.size, 0, none⟩ = some (.slice (some ⟨g, 0, none⟩) 512 512) := hx3
  obtain ⟨a3, hsl, ha3⟩ := slice_from g 4 4 rfl (by decide)
  obtain rfl := ha3 (by decide)
  have hof := of_any (F := fun _ => False) w3.drew _ (q.drop 4) (s : Int) (by rw [HS.out]) (PgAt.rdFrom (w := w3.drew) ((hbx3.drew 1).pg) (fun h => h) 4 (by decide))
  have HOF := Lib.hid hof
  have HB3 := Lib.hid hbx3
  clear hp3 hc3 hbx3 hx hof ha3
  go_wp2
  go_region_held_law (fun W => W.cell? ⟨w2.heap.size, 0, none⟩ = some (.slice (some ⟨g, 0, none⟩) 512 512))
    (first | exact hS2 | exact hS0)
    (first
    | ((go_simp; go_at_call 43; refine HOF.out.mono ?_; rintro e W1 ⟨rfl, rfl⟩))
    | ((go_simp; go_at_call 45
        refine (put_any _ g _ 0 4 0 4 s rfl rfl (HB3.out.drew 1).pg (by decide) (by decide) (by decide)).mono ?_
        rintro e W2 ⟨rfl, hp4, hc4⟩
        have hbx4 := (HB3.out.drew 1).step hp4 hc4
        have hS2 := hbx4.box
        have HB4 := Lib.hid hbx4
        clear hp4 hc4 hbx4)))
  go_wp2
  go_ret2
  rw [HSP.out]
  exact ⟨g, rfl, HB4.out.pg, HB.out.2.1, HB4.out.fin HB.out.2.2 HB.out.2.1⟩

end Mun
