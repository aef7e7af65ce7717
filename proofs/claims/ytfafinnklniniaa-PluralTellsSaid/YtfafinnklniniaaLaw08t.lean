/-
  WHAT IS PROVED HERE: the walk of the law PluralTells: it returns true and writes nothing that was there. Condition: the number is an int64.
-/
import Derived.Test.YtfafinnklniniaaPluA
namespace Go.Proofs.Ytfafinnklniniaa
open Go.RowKit

set_option maxHeartbeats 1600000 in
theorem LawTells_any (l : ByteArray) (x : Int) (w : World) (hx0 : -9223372036854775808 ≤ x) (hx1 : x ≤ 9223372036854775807) :
    Calls Try.prog 5 #[.string l, .int .i64 x] w fun e w' => e = .returned (.bool true) ∧ Below w.heap.size w w' := by
  obtain ⟨V, hV⟩ : ∃ V, refCat l (amountOf x) = V := ⟨_, rfl⟩
  have hV2 : Hid (catL (amountOf x) (tableL (rulesL l)) = V) := by rw [Hid, cat_eq l _ (amount_ge x hx0 hx1).1, hV]
  replace hV := hid_mk hV
  refine calls_of_wpQ Try.func5 rfl ?_
  intro Q hQ
  simp only [Try.ntmps5, List.size_toArray, List.length_cons, List.length_nil, Nat.reduceAdd, Nat.reduceSub, Array.replicate_succ, Array.replicate_zero, List.push_toArray, List.append_toArray, List.nil_append, List.cons_append]
  go_wp2_with fail
  refine (alive_any _).mono ?_
  rintro e w1 ⟨rfl, hb⟩
  have q1 := hid_mk hb
  clear hb
  go_wp2_with fail
  refine (Category_any l x _ hx0 hx1).mono ?_
  rw [hV2.out]
  rintro e w2 ⟨rfl, hb⟩
  have q2 := hid_mk (after (w := w) hb q1.out).1
  clear hb
  go_wp2_with fail
  refine (RCat_any l x _ hx0 hx1).mono ?_
  rw [hV.out]
  rintro e w3 ⟨rfl, hb⟩
  have q3 := hid_mk (after (w := w) hb q2.out).1
  clear hb
  go_wp2
  refine ends_ret hQ (results_tmp rfl _ _ _) rfl ?_
  exact ⟨ret_bool (by simp), q3.out⟩
theorem LawTells_walk {w : World} (s : ByteArray) (_hs : s.size ≤ 140737488351232) (x : Int) (lo : -9223372036854775808 ≤ x) (hi : x ≤ 9223372036854775807) :
    Calls Try.prog 5 #[.string s, .int .i64 x] w fun e w' => e = .returned (.bool true) ∧ Below w.heap.size w w' := LawTells_any s x w lo hi
end Go.Proofs.Ytfafinnklniniaa
