/-
  WHAT IS PROVED HERE: boxes stay behind an append to a row of another type; the place of a peer. No condition.
-/
import Derived.Test.YtncdjmpdbinanaaGreatDoorZGNd
import Derived.Test.YtncdjmpdbinanaaGreatDoorZGEx
import Derived.Test.YtncdjmpdbinanaaGreatDoorZGKj1
namespace Go.Proofs.YtncdjmpdbinanaaGreatDoor
open Go.RowKit

theorem Bxs.ownR {w w' : World} {base B e size n : Nat} {v : Value} {xs : List Value} {l : List Bx} (hB : Bxs B w l) (h : w.ownsRow base e size v n xs) (hl : ∀ b ∈ l, b.t ≠ e) (hg : w.grownBy w' v.ownBlock) : Bxs B w' l :=
  hB.grown hg (fun b hb => own_ne h (hB.1 b hb).1 (fun x => hl b hb x.symm))
theorem idxP_fnd (fr : Int) : ∀ (ps : List Pr) (j : Nat), (∃ (k : Nat) (p : Pr), idxP fr j ps = ((j + k : Nat) : Int) ∧ ps[k]? = some p ∧ findP fr ps = some p) ∨ (idxP fr j ps = -1 ∧ findP fr ps = none)
  | [], j => .inr ⟨rfl, rfl⟩
  | p :: ps, j => by
    by_cases h : p.id = fr
    · refine .inl ⟨0, p, ?_, rfl, ?_⟩
      · rw [idxP, if_pos h]; rfl
      · rw [findP, if_pos h]
    · rw [idxP, findP, if_neg h, if_neg h]
      rcases idxP_fnd fr ps (j + 1) with ⟨k, q, h1, h2, h3⟩ | ⟨h1, h2⟩
      · exact .inl ⟨k + 1, q, by rw [h1]; omega, by simpa using h2, h3⟩
      · exact .inr ⟨h1, h2⟩
theorem drop_get {α : Type} {l : List α} {k : Nat} {x p : α} (h : l.drop k = x :: l.drop (k + 1)) (hp : l[k]? = some p) : x = p := by
  have h1 : (l.drop k)[0]? = some x := by rw [h]; rfl
  rw [List.getElem?_drop, Nat.add_zero, hp] at h1
  injection h1 with h1
  exact h1.symm
end Go.Proofs.YtncdjmpdbinanaaGreatDoor
