/- A drawn region where two operations may come up at once. -/
import Derived.Test.YtjfepmohoijalaaGreatMgC
set_option maxRecDepth 100000
namespace Mun
open Go

section
variable {P : Program} {ops : Array Oper} {Q : Exit → Act → World → Prop} {md : Region.Mode} {S : World → Prop} {X : List Nat}

theorem wpAnyU_two {i j : Nat} {o u : Oper} {n : Nat} {l : Array Bool} {a : Act} {w : World} (hr : Region.ready md ops l = [i, j]) (ho : ops[i]? = some o) (hu : ops[j]? = some u)
    (h : ∀ K' : Act → World → Prop, Shut (∀ a w, (X.contains i = false → S w) → ((X.contains i = false → S w) → wpAnyU P md ops Q S X n (l.setIfInBounds i true) a w) → K' a w) → if Region.wanted o (yielded ops a.tmps) = true then Oper.wp P o a w K' Q else K' (a.put o.dst undef) w)
    (h2 : ∀ K' : Act → World → Prop, Shut (∀ a w, (X.contains j = false → S w) → ((X.contains j = false → S w) → wpAnyU P md ops Q S X n (l.setIfInBounds j true) a w) → K' a w) → if Region.wanted u (yielded ops a.tmps) = true then Oper.wp P u a w K' Q else K' (a.put u.dst undef) w) :
    wpAnyU P md ops Q S X (n + 1) l a w :=
  ⟨fun h0 => absurd h0 (by rw [hr]; simp), fun k hk => by
    rw [hr] at hk
    rcases List.mem_cons.1 hk with rfl | hk
    · exact wpOp_step ho (fun K' hK => h K' (fun a w hS hW => hK a w ⟨hS, hW hS⟩))
    · rw [List.mem_singleton] at hk
      subst hk
      exact wpOp_step hu (fun K' hK => h2 K' (fun a w hS hW => hK a w ⟨hS, hW hS⟩))⟩
end
end Mun
