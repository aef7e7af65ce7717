/-
  WHAT IS PROVED HERE: what slices.Sort leaves in a row of ints of the call's own. Condition: the row is not empty.
-/
import Derived.Test.YtfaigomhnhgjfaaPeer
import Derived.Test.YtfaigomhnhgjfaaOwn
import Derived.Test.YtfaigomhnhgjfaaShelf
import Derived.Sort.OwnSortedInts
namespace Go.Proofs.Ytfaigomhnhgjfaa
open Go.RowKit

theorem vint_one (xs : List Int) : ∀ u ∈ xs.map vint, u.oneCell' = true := by
  intro u hu
  obtain ⟨x, _, rfl⟩ := List.mem_map.1 hu
  rfl
theorem Sort_any {W w : World} (hb : Below W.heap.size W w) {A : Option Addr} {n c : Nat} {xs : List Int} (hn : 0 < n) (hn2 : n ≤ 140737488355328) (h : OwnM w W.heap.size 3 (.slice A n c) n (xs.map vint)) :
    Calls Try.prog 20 #[.slice A n c] w fun e w' => e = .returned (.tuple #[]) ∧ Below W.heap.size W w' ∧ ∃ g, A = some ⟨g, 0, none⟩ ∧ g < w'.heap.size ∧ ∀ j x, (sorted xs)[j]? = some x → w'.cell? ⟨g, j, none⟩ = some (.int .i64 x) := by
  have hl : xs.length = n := by have := h.1; simpa using this
  rcases h.2 with ⟨_, h0⟩ | ⟨g, cap, cur, fz, hv, hB, hg, hfz, hnc, hcm, hcs, ht⟩
  · omega
  · injection hv with hA _ hc
    subst hA; subst hc
    have hlt : g < w.heap.size := (Array.getElem?_eq_some_iff.1 hg).1
    have hH : Go.Sort.Holds (Value.int .i64) w g 0 xs.toArray := by
      intro j hj
      have hj' : j < xs.length := by simpa using hj
      refine ⟨?_, ?_⟩
      · have h1 := h.cells (g := g) rfl j (vint xs[j]) (by simp [hj'])
        rw [add_plain] at h1
        simpa [hj', vint] using h1
      · simp only [World.frozen?, hg, Nat.zero_add, Bool.and_eq_false_iff, decide_eq_false_iff_not]
        rcases hfz with h | h
        · right; omega
        · left; omega
    subst hl
    refine (Try.slices_Sort_int g 0 c xs w hH hlt (by omega)).mono ?_
    rintro e w' ⟨rfl, m, os, rfl⟩
    refine ⟨rfl, ?_, g, rfl, ?_, ?_⟩
    · exact hb.grown (grownBy_sortedI _) hb.size (fun k hk => by injection hk with hk; omega)
    · rw [Go.Sort.size_grow, Go.Sort.size_putRow]
      show g < w.heap.size + os.size
      omega
    · intro j x hx
      have hsz : (sorted xs).length = xs.length := (sorted_perm xs).length_eq
      obtain ⟨hj, hjx⟩ := List.getElem?_eq_some_iff.1 hx
      have hH2 := Go.Sort.holds_grow (Value.int .i64) _ os g 0 _ (by rw [Go.Sort.size_putRow]; exact hlt) (Go.Sort.holds_putRow (Value.int .i64) (Go.Sort.ahead w m) g 0 xs.toArray (sorted xs).toArray hH (by simpa using hsz))
      have h2 := (hH2 j (by simpa using hj)).1
      rw [Nat.zero_add] at h2
      have h3 : (sorted xs).toArray[j]! = x := by simp [hj, hjx]
      rw [h3] at h2
      exact h2
end Go.Proofs.Ytfaigomhnhgjfaa
