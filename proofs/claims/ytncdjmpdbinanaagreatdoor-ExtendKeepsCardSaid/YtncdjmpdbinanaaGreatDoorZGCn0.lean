/-
  WHAT IS PROVED HERE: what slices.Insert hands back of a list of ints of the call's own and one more. Condition: at most 64 of them.
  WHAT IS PROVED HERE: what a node is that has counted an answer, as data; BinarySearch and Clone of lists of ints. Condition: at most 2^43 of them.
-/
import Derived.Test.YtncdjmpdbinanaaGreatDoorZGMem
import Derived.Shelf.Spec.SlicesInsert
import Derived.Shelf.Spec.SlicesInsertGrow
import Derived.Test.YtncdjmpdbinanaaGreatDoorZGStd
import Derived.Test.YtncdjmpdbinanaaGreatDoorZGMy1
namespace Go.Proofs.YtncdjmpdbinanaaGreatDoor
open Go.RowKit

end Go.Proofs.YtncdjmpdbinanaaGreatDoor
namespace Go.Proofs.YtncdjmpdbinanaaGreatDoor
open Go.RowKit

/-- is the message an answer that counts? -/
def countC (N : Nd) (M : Ms) : Bool := rightN N && (mayM M && (M.kind == 2 && (M.to == N.id && (M.term == N.h.t && (M.ok && N.role == 1)))))
def posL (x : Int) (l : List Int) : Nat := l.countP (fun y => decide (y < x))
/-- who voted for it, the answer counted -/
def gotM (g : List Int) (x : Int) : List Int := if g.contains x then g else g.take (posL x g) ++ x :: g.drop (posL x g)
def countN (N : Nd) (M : Ms) : Nd := if countC N M then ⟨N.id, N.h, N.role, N.lead, N.timer, N.commit, gotM N.got M.fr, N.ps⟩ else N
def countW (N : Nd) (M : Ms) : Bool := countC N M && winsL (votersN N) (gotM N.got M.fr)
theorem asc_some : ∀ (l : List Int) (u : Int), 0 ≤ u → u ≤ 9 → ascL (some u) l = true → l.Pairwise (· < ·) ∧ (∀ v ∈ l, u < v ∧ v ≤ 9) ∧ (l.length : Int) ≤ 9 - u
  | [], u, _, _, _ => ⟨List.Pairwise.nil, by simp, by simp; omega⟩
  | v :: l, u, h0, h9, h => by
    rw [ascL] at h
    by_cases hc : v < 1 ∨ 9 < v ∨ v ≤ u
    · rw [if_pos hc] at h; cases h
    rw [if_neg hc] at h
    have hv : u < v ∧ v ≤ 9 := by omega
    obtain ⟨p1, p2, p3⟩ := asc_some l v (by omega) hv.2 h
    refine ⟨List.Pairwise.cons (fun z hz => (p2 z hz).1) p1, fun z hz => ?_, by simp; omega⟩
    rcases List.mem_cons.1 hz with rfl | hz
    · exact hv
    · have := p2 z hz; omega
theorem asc_none {l : List Int} (h : ascL none l = true) : l.Pairwise (· < ·) ∧ l.length ≤ 9 := by
  cases l with
  | nil => exact ⟨List.Pairwise.nil, by simp⟩
  | cons v l =>
    rw [ascL] at h
    by_cases hc : v < 1 ∨ 9 < v
    · rw [if_pos hc] at h; cases h
    rw [if_neg hc] at h
    have hv : 1 ≤ v ∧ v ≤ 9 := by omega
    obtain ⟨p1, p2, p3⟩ := asc_some l v (by omega) hv.2 h
    exact ⟨List.Pairwise.cons (fun z hz => (p2 z hz).1) p1, by simp; omega⟩
theorem got_right {N : Nd} (h : rightN N = true) : ascL none N.got = true := by
  unfold rightN at h
  simp only [Bool.and_eq_true] at h
  exact h.2.2.2.2.2.2.2.2.1
theorem posL_le (x : Int) (l : List Int) : posL x l ≤ l.length := List.countP_le_length
theorem Search_any (A : Option Addr) (n c : Nat) (xs : List Int) (x : Int) (w : World) {B : Nat} (hn : n ≤ 8796093022208) (h : Ints w B A n xs) (hs : xs.Pairwise (· < ·)) :
    Calls Tryz.prog 144 #[.slice A n c, .int .i64 x] w fun e w' => e = .returned (.tuple #[.int .i64 (posL x xs : Nat), .bool (xs.contains x)]) ∧ Below w.heap.size w w' := by
  have hl := h.len
  rcases Nat.eq_zero_or_pos n with h0 | h0
  · subst h0
    obtain rfl : xs = [] := List.length_eq_zero_iff.1 hl
    exact (Tryz.slices_BinarySearch_int_empty A c x w).mono fun e w' ⟨h1, h2⟩ => ⟨by rw [h1]; rfl, by rw [h2]; exact Below.refl _ _⟩
  · obtain ⟨b, o, rfl, _, _, hc⟩ := h.2 h0
    refine (Tryz.slices_BinarySearch_int b o n c xs x w (by omega) (by omega) (fun j hj => hc j _ (by simp [List.getElem?_eq_getElem hj, vint, List.getD_eq_getElem?_getD])) ?_).mono ?_
    · rw [List.take_of_length_le (by omega)]
      exact hs.imp (fun h => Int.le_of_lt h)
    · rintro e w' ⟨rfl, q, rfl⟩
      rw [List.take_of_length_le (by omega)]
      exact ⟨rfl, below_drewN_ (Below.refl _ _) q⟩
theorem Clone_own (A : Option Addr) (n c : Nat) (xs : List Int) (w : World) {B : Nat} (hn : n * 8 ≤ 140737488355328) (h : Ints w B A n xs) :
    Calls Tryz.prog 56 #[.slice A n c] w fun e w' => ∃ A' c', e = .returned (.slice A' n c') ∧ w'.ownsRow w.heap.size 3 1 (.slice A' n c') n (xs.map vint) ∧ Below w.heap.size w w' := by
  have hl := h.len
  rcases Nat.eq_zero_or_pos n with h0 | h0
  · subst h0
    obtain rfl : xs = [] := List.length_eq_zero_iff.1 hl
    cases A with
    | none => exact (Tryz.slices_Clone_int_nil 0 c w).mono fun e w' ⟨h1, h2⟩ => ⟨none, 0, h1, by rw [h2]; exact World.ownsRow_nil _ _ _ _, by rw [h2]; exact Below.refl _ _⟩
    | some a =>
      refine (Tryz.slices_Clone_int_zero a c w).mono ?_
      rintro e w' ⟨v', rfl, ho, _, hb⟩
      obtain ⟨A', c', rfl, _, _⟩ := own_slice ho
      exact ⟨A', c', rfl, ho, hb⟩
  · obtain ⟨b, o, rfl, _, _, hc⟩ := h.2 h0
    refine (Tryz.slices_Clone_int b o n c xs w (by omega) hn (fun j hj => hc j _ (by simp [List.getElem?_eq_getElem hj, vint, List.getD_eq_getElem?_getD]))).mono ?_
    rintro e w' ⟨v', rfl, ho, _, hb⟩
    rw [List.take_of_length_le (by omega)] at ho
    obtain ⟨A', c', rfl, _, _⟩ := own_slice ho
    exact ⟨A', c', rfl, ho, hb⟩
end Go.Proofs.YtncdjmpdbinanaaGreatDoor
