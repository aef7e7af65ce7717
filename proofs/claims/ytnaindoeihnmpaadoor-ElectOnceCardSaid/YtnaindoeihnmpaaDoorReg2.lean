/-
  WHAT IS PROVED HERE: a region that draws its order, at a step where two operations may come up. No condition.
-/
import Derived.Test.YtnaindoeihnmpaaDoorReg
namespace Go.Proofs.YtnaindoeihnmpaaDoor
open Go.RowKit Go
section
variable {P : Program} {ops : Array Oper} {Q : Exit → Act → World → Prop} {md : Region.Mode} {S : World → Prop} {need : Nat → Bool}
/-- the two that may come up -/
theorem wpAnyT_two {i j : Nat} {o o' : Oper} {fuel : Nat} {listed : Array Bool} {a : Act} {w : World} (hr : Region.ready md ops listed = [i, j]) (ho : ops[i]? = some o) (ho' : ops[j]? = some o')
    (h : ∀ K' : Act → World → Prop, Shut (∀ a w, (need i = true → S w) → wpAnyT P md ops Q S need fuel (listed.setIfInBounds i true) a w → K' a w) → if Region.wanted o (yielded ops a.tmps) = true then Oper.wp P o a w K' Q else K' (a.put o.dst undef) w)
    (h' : ∀ K' : Act → World → Prop, Shut (∀ a w, (need j = true → S w) → wpAnyT P md ops Q S need fuel (listed.setIfInBounds j true) a w → K' a w) → if Region.wanted o' (yielded ops a.tmps) = true then Oper.wp P o' a w K' Q else K' (a.put o'.dst undef) w) :
    wpAnyT P md ops Q S need (fuel + 1) listed a w := by
  refine ⟨fun h0 => (by rw [hr] at h0; cases h0), fun k hk => ?_⟩
  rw [hr] at hk
  rcases List.mem_cons.1 hk with rfl | hk
  · exact wpOp_step ho (fun K' hK => h K' (fun a w h1 h2 => hK a w ⟨h1, h2⟩))
  · rw [List.mem_singleton] at hk
    subst hk
    exact wpOp_step ho' (fun K' hK => h' K' (fun a w h1 h2 => hK a w ⟨h1, h2⟩))
end
end Go.Proofs.YtnaindoeihnmpaaDoor
