/-
  WHAT IS PROVED HERE: what slices.Insert hands back of a list of ints of the call's own and one more. Condition: at most 64 of them.
  WHAT IS PROVED HERE: what a node is that has counted an answer, as data; BinarySearch and Clone of lists of ints. Condition: at most 2^43 of them.
-/
import Derived.Test.YtncdjmpdbinanaaGreatDoorYGMem
import Derived.Shelf.Spec.SlicesInsert
import Derived.Shelf.Spec.SlicesInsertGrow
import Derived.Test.YtncdjmpdbinanaaGreatDoorYGStd
import Derived.Test.YtncdjmpdbinanaaGreatDoorYGMy1
namespace Go.Proofs.YtncdjmpdbinanaaGreatDoor
open Go.RowKit

end Go.Proofs.YtncdjmpdbinanaaGreatDoor
namespace Go.Proofs.YtncdjmpdbinanaaGreatDoor
open Go.RowKit

theorem asc_some : ∀ (l : List Int) (u : Int), 0 ≤ u → u ≤ 9 → ascL (some u) l = true → l.Pairwise (· < ·) ∧ (∀ v ∈ l, u < v ∧ v ≤ 9) ∧ (l.length : Int) ≤ 9 - u
  | [], u, _, _, _ => ⟨List.Pairwise.nil, by simp, by simp; omega⟩
  | v :: l, u, h0, h9, h => by
    rw [ascL] at h
    by_cases hc : v < 1 ∨ 9 < v ∨ v ≤ u
    · rw [if_pos hc] at h; cases h
    rw [if_neg hc] at h
    have hv : u < v ∧ v ≤ 9 := by omega
    obtain ⟨p1, p2, p3⟩ := asc_some l v (by omega) hv.2 h
    refine ⟨List.Pairwise.cons (fun z hz => (p2 z hz).1) p1, fun z hz => ?_, by simp; omega⟩
    rcases List.mem_cons.1 hz with rfl | hz
    · exact hv
    · have := p2 z hz; omega
theorem asc_none {l : List Int} (h : ascL none l = true) : l.Pairwise (· < ·) ∧ l.length ≤ 9 := by
  cases l with
  | nil => exact ⟨List.Pairwise.nil, by simp⟩
  | cons v l =>
    rw [ascL] at h
    by_cases hc : v < 1 ∨ 9 < v
    · rw [if_pos hc] at h; cases h
    rw [if_neg hc] at h
    have hv : 1 ≤ v ∧ v ≤ 9 := by omega
    obtain ⟨p1, p2, p3⟩ := asc_some l v (by omega) hv.2 h
    exact ⟨List.Pairwise.cons (fun z hz => (p2 z hz).1) p1, by simp; omega⟩
end Go.Proofs.YtncdjmpdbinanaaGreatDoor
