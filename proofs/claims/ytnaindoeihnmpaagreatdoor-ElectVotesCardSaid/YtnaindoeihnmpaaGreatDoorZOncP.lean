/-
  WHAT IS PROVED HERE: what a node has granted in its term stays true of what was written down of it: plain, no program. No condition.
-/
import Derived.Test.YtnaindoeihnmpaaGreatDoorZVot
import Derived.Test.YtnaindoeihnmpaaGreatDoorZMap
namespace Go.Proofs.YtnaindoeihnmpaaGreatDoor
open Go.RowKit

/-- what is written down: no term ahead of the node's; in its own term, whom it voted for -/
def InvO (f : Int → Option Value) (N : Nd) : Prop := ∀ t v, f t = some v → ∃ vt : Int, v = .int .i64 vt ∧ vt ≠ 0 ∧ t ≤ N.h.t ∧ (t = N.h.t → N.h.v = vt)
theorem inv_none (N : Nd) : InvO (fun _ => none) N := fun _ _ h => by cases h
theorem inv_later {f : Int → Option Value} {N : Nd} (h : InvO f N) (term : Int) : InvO f (laterN N term) := by
  unfold laterN
  cases hc : laterC N term with
  | false => exact h
  | true =>
    have ht : N.h.t < term := by
      unfold laterC at hc
      simp only [Bool.and_eq_true, decide_eq_true_eq] at hc
      exact hc.2.1
    intro t v hv
    obtain ⟨vt, h1, h2, h3, h4⟩ := h t v hv
    refine ⟨vt, h1, h2, ?_, ?_⟩
    · show t ≤ term
      omega
    · show t = term → _
      omega
theorem later_id (N : Nd) (term : Int) : (laterN N term).id = N.id := by unfold laterN; split <;> rfl
theorem vote_bounds {N : Nd} {M : Ms} (hp : voteP N M = true) (hg : voteG N M = true) : 1 ≤ N.h.t ∧ N.h.t ≤ 1073741824 ∧ 1 ≤ M.fr ∧ M.fr ≤ 9 := by
  unfold voteP mayM inB at hp
  unfold voteG at hg
  simp only [Bool.and_eq_true, decide_eq_true_eq, beq_iff_eq] at hp hg
  omega
theorem vote_noconf {f : Int → Option Value} {N : Nd} {M : Ms} (h : InvO f N) (hg : voteG N M = true) : f N.h.t = none ∨ f N.h.t = some (.int .i64 M.fr) := by
  cases hf : f N.h.t with
  | none => exact .inl rfl
  | some v =>
    obtain ⟨vt, rfl, h2, _, h4⟩ := h _ _ hf
    have h5 := h4 rfl
    unfold voteG at hg
    simp only [Bool.and_eq_true, Bool.or_eq_true, beq_iff_eq] at hg
    right
    rw [show M.fr = vt from by omega]
theorem vote_step {f : Int → Option Value} {N : Nd} {M : Ms} {d : Int} (h : InvO f N) (hp : voteP N M = true) (hg : voteG N M = true) : InvO (updI f N.h.t (.int .i64 M.fr)) (voteN N M d) := by
  have hb := vote_bounds hp hg
  unfold voteN
  rw [hp, hg]
  intro t v hv
  unfold updI at hv
  by_cases ht : t = N.h.t
  · rw [if_pos ht] at hv
    cases hv
    exact ⟨M.fr, rfl, by omega, by show t ≤ N.h.t; omega, fun _ => rfl⟩
  · rw [if_neg ht] at hv
    obtain ⟨vt, h1, h2, h3, _⟩ := h t v hv
    exact ⟨vt, h1, h2, h3, fun e => absurd e ht⟩
theorem vote_step0 {f : Int → Option Value} {N : Nd} {M : Ms} {d : Int} (h : InvO f N) (hn : (voteP N M && voteG N M) = false) : InvO f (voteN N M d) := by
  unfold voteN
  rw [hn]
  exact h
theorem voteL_no {N : Nd} {M : Ms} (h : voteP N M = false) : voteL N M = [] := by unfold voteL; rw [h]; rfl
theorem voteL_yes {N : Nd} {M : Ms} (h : voteP N M = true) : voteL N M = [⟨2, N.id, M.fr, N.h.t, voteG N M, 0, 0, [], 0, ⟨#[]⟩, []⟩] := by unfold voteL; rw [h]; rfl
/-- what is not the message that is voted on -/
theorem voteP_no {N N' : Nd} {M : Ms} (hid : N'.id = N.id) (h : mayM M = false ∨ (M.kind == 1) = false ∨ (M.to == N.id) = false) : voteP N' M = false := by
  unfold voteP
  rw [hid]
  rcases h with h | h | h <;> simp [h]
end Go.Proofs.YtnaindoeihnmpaaGreatDoor
