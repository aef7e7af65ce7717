/-
  WHAT IS PROVED HERE: the walk of the law PluralHolds: it returns true and writes nothing that was there. Conditions: at most 2^43 elements a slice; the number is an int64.
-/
import Derived.Test.YtfafinnklniniaaPlu8
import Derived.Test.YtfafinnklniniaaPlu9
namespace Go.Proofs.Ytfafinnklniniaa
open Go.RowKit

set_option maxHeartbeats 1600000 in
theorem LawHolds_any (l : List (List Rl)) (A : Option Addr) (n cap : Nat) (x : Int) (w : World) (B : Nat) (hx0 : -9223372036854775808 ≤ x) (hx1 : x ≤ 9223372036854775807) (hn : n ≤ 8796093022208) (h : Rule w B A n l) :
    Calls Try.prog 4 #[.slice A n cap, .int .i64 x] w fun e w' => e = .returned (.bool true) ∧ Below w.heap.size w w' := by
  obtain ⟨V, hV⟩ : ∃ V, (ruleOk l && ruleHolds (amountOf x) l) = V := ⟨_, rfl⟩
  replace h := hid_mk h
  cases hok : ruleOk l
  · have hVf : V = false := by rw [← hV, hok]; rfl
    subst hVf
    replace hok := hid_mk hok
    replace hV := hid_mk hV
    refine calls_of_wpQ Try.func4 rfl ?_
    intro Q hQ
    simp only [Try.ntmps4, List.size_toArray, List.length_cons, List.length_nil, Nat.reduceAdd, Nat.reduceSub, Array.replicate_succ, Array.replicate_zero, List.push_toArray, List.append_toArray, List.nil_append, List.cons_append]
    go_wp2_with fail
    refine (alive_any _).mono ?_
    rintro e w1 ⟨rfl, hb⟩
    have q1 := hid_mk hb
    clear hb
    go_wp2_with fail
    refine (Holds_any l A n cap x _ B hx0 hx1 hn (h.out.to q1.out)).mono ?_
    rw [hV.out]
    rintro e w2 ⟨rfl, hb⟩
    have q2 := hid_mk (after (w := w) hb q1.out).1
    clear hb
    go_wp2_with fail
    refine (refRight_any l A n cap _ B hn (h.out.to q2.out)).mono ?_
    rw [hok.out]
    rintro e w3 ⟨rfl, hb⟩
    have q3 := hid_mk (after (w := w) hb q2.out).1
    clear hb
    go_wp2
    refine ends_ret hQ (results_tmp rfl _ _ _) rfl ?_
    exact ⟨rfl, q3.out⟩
  · have hVf : Hid (ruleHolds (amountOf x) l = V) := by rw [Hid, ← hV, hok]; rfl
    have hok2 := hid_mk hok
    replace hV := hid_mk hV
    refine calls_of_wpQ Try.func4 rfl ?_
    intro Q hQ
    simp only [Try.ntmps4, List.size_toArray, List.length_cons, List.length_nil, Nat.reduceAdd, Nat.reduceSub, Array.replicate_succ, Array.replicate_zero, List.push_toArray, List.append_toArray, List.nil_append, List.cons_append]
    go_wp2_with fail
    refine (alive_any _).mono ?_
    rintro e w1 ⟨rfl, hb⟩
    have q1 := hid_mk hb
    clear hb
    go_wp2_with fail
    refine (Holds_any l A n cap x _ B hx0 hx1 hn (h.out.to q1.out)).mono ?_
    rw [hV.out]
    rintro e w2 ⟨rfl, hb⟩
    have q2 := hid_mk (after (w := w) hb q1.out).1
    clear hb
    go_wp2_with fail
    refine (refRight_any l A n cap _ B hn (h.out.to q2.out)).mono ?_
    rw [hok2.out]
    rintro e w3 ⟨rfl, hb⟩
    have q3 := hid_mk (after (w := w) hb q2.out).1
    clear hb
    go_wp2_with fail
    refine (refHolds_any l A n cap x _ B hx0 hx1 hn (h.out.to q3.out) hok2.out).mono ?_
    rw [hVf.out]
    rintro e w4 ⟨rfl, hb⟩
    have q4 := hid_mk (after (w := w) hb q3.out).1
    clear hb
    go_wp2
    refine ends_ret hQ (results_tmp rfl _ _ _) rfl ?_
    exact ⟨ret_bool (by simp), q4.out⟩
theorem LawHolds_walk {w : World} (A : Option Addr) (n cap : Nat) (l : List (List Rl)) (h : Rule w w.heap.size A n l) (_hl : n ≤ cap) (hn : n ≤ 8796093022208) (x : Int) (lo : -9223372036854775808 ≤ x) (hi : x ≤ 9223372036854775807) :
    Calls Try.prog 4 #[.slice A n cap, .int .i64 x] w fun e w' => e = .returned (.bool true) ∧ Below w.heap.size w w' := LawHolds_any l A n cap x w _ lo hi hn h
end Go.Proofs.Ytfafinnklniniaa
