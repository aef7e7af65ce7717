/-
  WHAT IS PROVED HERE: what digest.Of hands back. Conditions: texts of at most 2^39 bytes.
-/
import Derived.Test.YtngaeencnklbdaaSha4
namespace Go.Proofs.Ytngaeencnklbdaa
open Go.RowKit

theorem Of_any (s : ByteArray) (w : World) (hs : s.size ≤ 549755813888) : Calls Try.prog 33 #[.string s] w fun e w' => e = .returned (.string ⟨(digL s.data.toList).toArray⟩) ∧ Below w.heap.size w w' := by
  have hsl : s.data.toList.length ≤ 1099511627776 := by have : s.data.toList.length = s.size := rfl; omega
  refine calls_of_wpQ Try.func33 rfl ?_
  intro Q hQ
  simp only [Try.ntmps33, List.size_toArray, List.length_cons, List.length_nil, Nat.reduceAdd, Nat.reduceSub, Array.replicate_succ, Array.replicate_zero, List.push_toArray, List.append_toArray, List.nil_append, List.cons_append]
  go_wp2_with fail
  refine (New_any _ (B := w.heap.size) (Nat.le_refl _)).mono ?_
  rintro e w1 ⟨g, rfl, hg1, hH, hb1⟩
  have hs1 := hb1.size
  replace hb1 := hid_mk hb1
  go_wp2_with fail
  refine (Add_any w.heap.size g _ [] s _ hH hs1 (by simp) hs).mono ?_
  rintro e w2 ⟨v2, rfl, hH2, hT, _⟩
  rw [List.nil_append] at hH2
  have q2 : Below w.heap.size w w2 := hT.below hb1.out hs1 hg1 (fun k hk => by simp [Value.ownBlock] at hk)
  go_wp2_with fail
  refine (Sum_any w.heap.size g v2 _ _ hH2 hsl).mono ?_
  rintro e w3 ⟨rfl, hb3⟩
  have q3 := (after (w := w) hb3 q2).1
  go_wp2
  refine ends_ret hQ (results_tmp rfl _ _ _) rfl ?_
  exact ⟨rfl, q3⟩
end Go.Proofs.Ytngaeencnklbdaa
