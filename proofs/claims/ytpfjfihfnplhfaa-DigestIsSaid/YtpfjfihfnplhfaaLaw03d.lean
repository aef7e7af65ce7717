/-
  WHAT IS PROVED HERE: the walk of the law DigestIs: it returns true and writes nothing that was there. No condition.
-/
import Derived.Test.YtpfjfihfnplhfaaLaw03b
import Derived.Test.YtpfjfihfnplhfaaRef4
namespace Go.Proofs.Ytpfjfihfnplhfaa
open Go.RowKit

theorem LawIs_any (s : ByteArray) (w : World) : Calls Try.prog 4 #[.string s] w fun e w' => e = .returned (.bool true) ∧ Below w.heap.size w w' := by
  have hts := short_size s 5000
  obtain ⟨t, ht⟩ : ∃ t, (if 5000 < s.size then s.extract 0 5000 else s) = t := ⟨_, rfl⟩
  rw [ht] at hts
  replace ht := hid_mk ht
  obtain ⟨D, hD⟩ : ∃ D : ByteArray, (⟨(digL t.data.toList).toArray⟩ : ByteArray) = D := ⟨_, rfl⟩
  replace hD := hid_mk hD
  refine calls_of_wpQ Try.func4 rfl ?_
  intro Q hQ
  simp only [Try.ntmps4, List.size_toArray, List.length_cons, List.length_nil, Nat.reduceAdd, Nat.reduceSub, Array.replicate_succ, Array.replicate_zero, List.push_toArray, List.append_toArray, List.nil_append, List.cons_append]
  go_wp2_with fail
  refine (short_any s 5000 _ (by omega)).mono ?_
  rw [ht.out]
  rintro e w1 ⟨rfl, rfl⟩
  go_wp2_with fail
  refine (Of_any t _ (by omega)).mono ?_
  rw [hD.out]
  rintro e w1 ⟨rfl, hb1⟩
  go_wp2_with fail
  refine (ROf_any t _ (by omega)).mono ?_
  rw [hD.out]
  rintro e w2 ⟨rfl, hb2⟩
  have q2 := (after (w := w) hb2 hb1).1
  go_wp2
  refine ends_ret hQ (results_tmp rfl _ _ _) rfl ?_
  exact ⟨ret_bool (by simp), q2⟩
theorem LawIs_walk (s0 : ByteArray) {w : World} (_hs0 : s0.size ≤ 140737488351232) :
    Calls Try.prog 4 #[.string s0] w fun e w' => e = .returned (.bool true) ∧ Below w.heap.size w w' := LawIs_any s0 w
end Go.Proofs.Ytpfjfihfnplhfaa
