/-
  WHAT IS PROVED HERE: a region that draws its order, of which some operations are loads, and whose last operations, which wait for all loads, store into a cell that is loaded: the loads may be taken first. No condition.
  WHAT IS PROVED HERE: a region that draws its order, at a step where two operations may come up. No condition.
-/
import Derived.Test.YtncdjmpdbinanaaGreatDoorZGJrn
import Derived.OrdersHeld
import Derived.StillTail
import Derived.Deep.RegionHeld
namespace Go.Proofs.YtncdjmpdbinanaaGreatDoor
open Go.RowKit Go
section
variable {P : Program} {ops : Array Oper} {Q : Exit → Act → World → Prop} {md : Region.Mode} {S : World → Prop} {need : Nat → Bool}
/-- whatever order is picked from here on; S holds behind each operation that is asked for it -/
def wpAnyT (P : Program) (md : Region.Mode) (ops : Array Oper) (Q : Exit → Act → World → Prop) (S : World → Prop) (need : Nat → Bool) : Nat → Array Bool → Act → World → Prop
  | 0, listed, a, w => Region.ready md ops listed = [] ∧ Q .normal a w
  | fuel + 1, listed, a, w =>
    (Region.ready md ops listed = [] → Q .normal a w) ∧
    ∀ i ∈ Region.ready md ops listed, wpOp P ops Q i (fun a' w' => (need i = true → S w') ∧ wpAnyT P md ops Q S need fuel (listed.setIfInBounds i true) a' w') a w
theorem wpAny_of_T : ∀ (fuel : Nat) (listed : Array Bool) (a : Act) (w : World), wpAnyT P md ops Q S need fuel listed a w → wpAny P md ops Q fuel listed a w
  | 0, _, _, _, h => h
  | fuel + 1, _, _, _, h => ⟨h.1, fun i hi => wpOp_mono (fun a' w' h' => wpAny_of_T fuel _ a' w' h'.2) (h.2 i hi)⟩
theorem wpAnyT_first {i : Nat} {oi : Oper} {v : Value} (hi : ops[i]? = some oi) (hsel : ∀ (j : Nat) (o : Oper) cs b, ops[j]? = some o → o.op ≠ .select cs b)
    (hQ : ∀ c a w, Q (.panic c) (a.put oi.dst v) w → Q (.panic c) a w) (hn : need i = true)
    (hwait : ∀ (j : Nat) (oj : Oper), ops[j]? = some oj → need j = false → ∃ e ∈ oj.after, Region.binds md e = true ∧ e.on = i) :
    ∀ (fuel : Nat) (listed : Array Bool) (a : Act) (w : World),
      (∀ j oj, ops[j]? = some oj → j ≠ i → listed.getD j true = false → (∀ e ∈ oj.after, Region.binds md e = true → e.on ≠ i) → oi.apart ops oj = true) →
      i ∈ Region.ready md ops listed → YieldsIf P ops S oi v a → S w →
      wpAnyT P md ops Q S need fuel (listed.setIfInBounds i true) (a.put oi.dst v) w → wpAnyT P md ops Q S need (fuel + 1) listed a w := by
  intro fuel
  induction fuel with
  | zero =>
    intro listed a w _ hr hy hS H
    refine ⟨fun h => (by rw [h] at hr; cases hr), fun j hj => ?_⟩
    by_cases hji : j = i
    · subst hji; exact hy.wpOp hi hS ⟨fun _ => hS, H⟩
    · have := ready_mono hj hji
      rw [H.1] at this
      cases this
  | succ fuel ih =>
    intro listed a w hfree hr hy hS H
    refine ⟨fun h => (by rw [h] at hr; cases hr), fun j hj => ?_⟩
    by_cases hji : j = i
    · subst hji; exact hy.wpOp hi hS ⟨fun _ => hS, H⟩
    · have h1 := H.2 j (ready_mono hj hji)
      obtain ⟨hjun, oj, hoj, hall⟩ := mem_ready.1 hj
      have hnot : ∀ e ∈ oj.after, Region.binds md e = true → e.on ≠ i := fun e he hb heq => by
        have h1 := hall e he hb
        have h0 := (mem_ready.1 hr).1
        rw [heq] at h1
        rcases Nat.lt_or_ge i listed.size with h' | h'
        · simp [h'] at h0 h1; rw [h0] at h1; cases h1
        · simp [Array.getElem?_eq_none h'] at h1
      have hnj : need j = true := by
        cases hnd : need j with
        | true => rfl
        | false =>
          obtain ⟨e, he, hb, ho⟩ := hwait j oj hoj hnd
          exact absurd ho (hnot e he hb)
      have h2 := wpOp_putIf hoj (hfree j oj hoj hji hjun hnot) (fun cs b => hsel i oi cs b hi) (fun cs b => hsel j oj cs b hoj) hQ hy h1
      have hfree' : ∀ k ok, ops[k]? = some ok → k ≠ i → (listed.setIfInBounds j true).getD k true = false →
          (∀ e ∈ ok.after, Region.binds md e = true → e.on ≠ i) → oi.apart ops ok = true := fun k ok hk hki hun hno => by
        refine hfree k ok hk hki ?_ hno
        by_cases hjk : j = k
        · subst hjk; exact hjun
        · rw [getD_set_ne true hjk] at hun; exact hun
      refine wpOp_mono (fun a' w' h3 => ⟨h3.2.1, ih (listed.setIfInBounds j true) a' w' hfree' (ready_mono hr (Ne.symm hji)) h3.1 (h3.2.1 hnj) ?_⟩) h2
      rw [Array.setIfInBounds_comm _ _ hji]
      exact h3.2.2
def waitsB (md : Region.Mode) (ops : Array Oper) (need : Nat → Bool) (i : Nat) : Bool :=
  (List.range ops.size).all fun j => need j || ((ops[j]?).map fun o => o.after.any fun e => Region.binds md e && e.on == i).getD true
theorem waitsB_spec {i : Nat} (h : waitsB md ops need i = true) (j : Nat) (oj : Oper) (hj : ops[j]? = some oj) (hn : need j = false) : ∃ e ∈ oj.after, Region.binds md e = true ∧ e.on = i := by
  unfold waitsB at h
  rw [List.all_eq_true] at h
  have hlt : j < ops.size := (Array.getElem?_eq_some_iff.1 hj).1
  have h1 := h j (List.mem_range.2 hlt)
  rw [hn, hj] at h1
  simp only [Bool.false_or, Option.map_some, Option.getD_some] at h1
  obtain ⟨k, hk, hb⟩ := Array.any_eq_true.1 h1
  simp only [Bool.and_eq_true, beq_iff_eq] at hb
  exact ⟨oj.after[k], Array.getElem_mem hk, hb.1, hb.2⟩
/-- take number i first -/
theorem wpAnyT_take {i : Nat} {oi : Oper} {v : Value} {fuel : Nat} {listed : Array Bool} {a : Act} {w : World} (hi : ops[i]? = some oi)
    (hs : Region.noSelect ops = true) (hf : Region.free md ops listed i = true) (hr : (Region.ready md ops listed).contains i = true) (hn : need i = true) (hw : waitsB md ops need i = true)
    (hQ : ∀ c a w, Q (.panic c) (a.put oi.dst v) w → Q (.panic c) a w) (hg : Region.wanted oi (yielded ops a.tmps) = true) (hy : ∀ w, S w → (execOp a.eval oi).run P w = .ok (.value v) w) (hS : S w)
    (h : wpAnyT P md ops Q S need fuel (listed.setIfInBounds i true) (a.put oi.dst v) w) : wpAnyT P md ops Q S need (fuel + 1) listed a w :=
  wpAnyT_first hi (Region.noSelect_spec hs) hQ hn (waitsB_spec hw) fuel listed a w (Region.free_spec hi hf) (by simpa using hr) (.inl ⟨hg, hy⟩) hS h
/-- one that is not wanted -/
theorem wpAnyT_skip {i : Nat} {oi : Oper} {fuel : Nat} {listed : Array Bool} {a : Act} {w : World} (hi : ops[i]? = some oi)
    (hs : Region.noSelect ops = true) (hf : Region.free md ops listed i = true) (hr : (Region.ready md ops listed).contains i = true) (hn : need i = true) (hw : waitsB md ops need i = true)
    (hQ : ∀ c a w, Q (.panic c) (a.put oi.dst undef) w → Q (.panic c) a w) (hg : Region.wanted oi (yielded ops a.tmps) = false) (hS : S w)
    (h : wpAnyT P md ops Q S need fuel (listed.setIfInBounds i true) (a.put oi.dst undef) w) : wpAnyT P md ops Q S need (fuel + 1) listed a w :=
  wpAnyT_first hi (Region.noSelect_spec hs) hQ hn (waitsB_spec hw) fuel listed a w (Region.free_spec hi hf) (by simpa using hr) (.inr ⟨hg, rfl⟩) hS h
/-- the one that may come up -/
theorem wpAnyT_one {i : Nat} {o : Oper} {fuel : Nat} {listed : Array Bool} {a : Act} {w : World} (hr : Region.ready md ops listed = [i]) (ho : ops[i]? = some o)
    (h : ∀ K' : Act → World → Prop, Shut (∀ a w, (need i = true → S w) → wpAnyT P md ops Q S need fuel (listed.setIfInBounds i true) a w → K' a w) → if Region.wanted o (yielded ops a.tmps) = true then Oper.wp P o a w K' Q else K' (a.put o.dst undef) w) :
    wpAnyT P md ops Q S need (fuel + 1) listed a w := by
  refine ⟨fun h0 => (by rw [hr] at h0; cases h0), fun j hj => ?_⟩
  rw [hr, List.mem_singleton] at hj
  subst hj
  exact wpOp_step ho (fun K' hK => h K' (fun a w h1 h2 => hK a w ⟨h1, h2⟩))
theorem wpAnyT_done {listed : Array Bool} {a : Act} {w : World} (hr : Region.ready md ops listed = []) (h : Q .normal a w) : ∀ fuel, wpAnyT P md ops Q S need fuel listed a w
  | 0 => ⟨hr, h⟩
  | _ + 1 => ⟨fun _ => h, by rw [hr]; simp⟩
theorem wp_region_T {id : Nat} {a : Act} {w : World} (S : World → Prop) (need : Nat → Bool) (n : Nat) (hm : P.follows .mixedOrders = true) (hn : ops.size = n)
    (h : wpAnyT P .any ops Q S need n (Array.replicate n false) a w.drew) : (Code.region id ops true).wp P Q a w :=
  wp_region_any hm (by rw [hn]; exact wpAny_of_T (S := S) (need := need) _ _ _ _ h)
theorem wp_region_T' {id : Nat} {a : Act} {w : World} (S : World → Prop) (need : Nat → Bool) (n : Nat) (hm : P.follows .mixedOrders = true) (hn : ops.size = n) (hS : S w.drew)
    (h : S w.drew → wpAnyT P .any ops Q S need n (Array.replicate n false) a w.drew) : (Code.region id ops true).wp P Q a w := wp_region_T S need n hm hn (h hS)
end
end Go.Proofs.YtncdjmpdbinanaaGreatDoor
namespace Go.Proofs.YtncdjmpdbinanaaGreatDoor
open Go.RowKit Go
section
variable {P : Program} {ops : Array Oper} {Q : Exit → Act → World → Prop} {md : Region.Mode} {S : World → Prop} {need : Nat → Bool}
/-- the two that may come up -/
theorem wpAnyT_two {i j : Nat} {o o' : Oper} {fuel : Nat} {listed : Array Bool} {a : Act} {w : World} (hr : Region.ready md ops listed = [i, j]) (ho : ops[i]? = some o) (ho' : ops[j]? = some o')
    (h : ∀ K' : Act → World → Prop, Shut (∀ a w, (need i = true → S w) → wpAnyT P md ops Q S need fuel (listed.setIfInBounds i true) a w → K' a w) → if Region.wanted o (yielded ops a.tmps) = true then Oper.wp P o a w K' Q else K' (a.put o.dst undef) w)
    (h' : ∀ K' : Act → World → Prop, Shut (∀ a w, (need j = true → S w) → wpAnyT P md ops Q S need fuel (listed.setIfInBounds j true) a w → K' a w) → if Region.wanted o' (yielded ops a.tmps) = true then Oper.wp P o' a w K' Q else K' (a.put o'.dst undef) w) :
    wpAnyT P md ops Q S need (fuel + 1) listed a w := by
  refine ⟨fun h0 => (by rw [hr] at h0; cases h0), fun k hk => ?_⟩
  rw [hr] at hk
  rcases List.mem_cons.1 hk with rfl | hk
  · exact wpOp_step ho (fun K' hK => h K' (fun a w h1 h2 => hK a w ⟨h1, h2⟩))
  · rw [List.mem_singleton] at hk
    subst hk
    exact wpOp_step ho' (fun K' hK => h' K' (fun a w h1 h2 => hK a w ⟨h1, h2⟩))
end
end Go.Proofs.YtncdjmpdbinanaaGreatDoor
