/-
  WHAT IS PROVED HERE: the walk of the law PluralPrints: it returns true and writes nothing that was there. Conditions: at most 2^43 elements a slice; the variable internal/strconv.uint64pow10 holds the powers of ten.
-/
import Derived.Test.YtfafinnklniniaaDoorPluZ
import Derived.Test.YtfafinnklniniaaDoorPlu8
import Derived.Test.YtfafinnklniniaaDoorPlu9
namespace Go.Proofs.YtfafinnklniniaaDoor
open Go.RowKit

set_option maxHeartbeats 1600000 in
theorem LawPrints_any (l : List (List Rl)) (A : Option Addr) (n c : Nat) (w : World) (B : Nat) (hn : n ≤ 8796093022208) (h : Rule w B A n l) (ht : Tab w) :
    Calls Tryd.prog 3 #[.slice A n c] w fun e w' => e = .returned (.bool true) ∧ Below w.heap.size w w' := by
  replace h := hid_mk h
  replace ht := hid_mk ht
  cases hok : ruleOk l
  · have hpf : Hid (printF l = (⟨#[]⟩, 1)) := by rw [Hid]; unfold printF; rw [hok]; rfl
    replace hok := hid_mk hok
    refine calls_of_wpQ Tryd.func3 rfl ?_
    intro Q hQ
    simp only [Tryd.ntmps3, List.size_toArray, List.length_cons, List.length_nil, Nat.reduceAdd, Nat.reduceSub, Array.replicate_succ, Array.replicate_zero, List.push_toArray, List.append_toArray, List.nil_append, List.cons_append]
    go_wp2_with fail
    refine (Print_any l A n c w B hn h.out ht.out).mono ?_
    rw [hpf.out]
    rintro e w1 ⟨rfl, hb⟩
    have q1 := hid_mk hb
    clear hb
    go_wp2_with fail
    refine (Right_any l A n c _ B hn (h.out.to q1.out)).mono ?_
    rw [hok.out]
    rintro e w2 ⟨rfl, hb⟩
    have q2 := hid_mk (after (w := w) hb q1.out).1
    clear hb
    go_wp2_with fail
    refine (refRight_any l A n c _ B hn (h.out.to q2.out)).mono ?_
    rw [hok.out]
    rintro e w3 ⟨rfl, hb⟩
    have q3 := hid_mk (after (w := w) hb q2.out).1
    clear hb
    go_wp2_with fail
    refine (alive_any _).mono ?_
    rintro e w4 ⟨rfl, hb⟩
    have q4 := hid_mk (after (w := w) hb q3.out).1
    clear hb
    go_wp2_with fail
    refine (refRight_any l A n c _ B hn (h.out.to q4.out)).mono ?_
    rw [hok.out]
    rintro e w5 ⟨rfl, hb⟩
    have q5 := hid_mk (after (w := w) hb q4.out).1
    clear hb
    go_wp2
    refine ends_ret hQ (results_tmp rfl _ _ _) rfl ?_
    exact ⟨ret_bool (by simp), q5.out⟩
  · obtain ⟨V, hV⟩ : ∃ V, ruleB l = V := ⟨_, rfl⟩
    have hpf : printF l = (if 400 < (ruleB l).size then (⟨#[]⟩, 2) else (ruleB l, 0)) := by unfold printF; rw [if_pos hok]
    rw [hV] at hpf
    replace hV := hid_mk hV
    by_cases hbig : 400 < V.size
    · rw [if_pos hbig] at hpf
      replace hpf := hid_mk hpf
      have hi1 : (400 : Int) < (V.size : Int) := by omega
      replace hok := hid_mk hok
      refine calls_of_wpQ Tryd.func3 rfl ?_
      intro Q hQ
      simp only [Tryd.ntmps3, List.size_toArray, List.length_cons, List.length_nil, Nat.reduceAdd, Nat.reduceSub, Array.replicate_succ, Array.replicate_zero, List.push_toArray, List.append_toArray, List.nil_append, List.cons_append]
      go_wp2_with fail
      refine (Print_any l A n c w B hn h.out ht.out).mono ?_
      rw [hpf.out]
      rintro e w1 ⟨rfl, hb⟩
      have q1 := hid_mk hb
      clear hb
      go_wp2_with fail
      refine (Right_any l A n c _ B hn (h.out.to q1.out)).mono ?_
      rw [hok.out]
      rintro e w2 ⟨rfl, hb⟩
      have q2 := hid_mk (after (w := w) hb q1.out).1
      clear hb
      go_wp2_with fail
      refine (refRight_any l A n c _ B hn (h.out.to q2.out)).mono ?_
      rw [hok.out]
      rintro e w3 ⟨rfl, hb⟩
      have q3 := hid_mk (after (w := w) hb q2.out).1
      clear hb
      go_wp2_with fail
      refine (alive_any _).mono ?_
      rintro e w4 ⟨rfl, hb⟩
      have q4 := hid_mk (after (w := w) hb q3.out).1
      clear hb
      go_wp2_with fail
      refine (refRight_any l A n c _ B hn (h.out.to q4.out)).mono ?_
      rw [hok.out]
      rintro e w5 ⟨rfl, hb⟩
      have q5 := hid_mk (after (w := w) hb q4.out).1
      clear hb
      go_wp2_with fail
      refine (refText_any l A n c _ B hok.out (h.out.to q5.out) (ht.out.to q5.out)).mono ?_
      rw [hV.out]
      rintro e w6 ⟨rfl, hb⟩
      have q6 := hid_mk (after (w := w) hb q5.out).1
      clear hb
      go_wp2
      refine ends_ret hQ (results_tmp rfl _ _ _) rfl ?_
      exact ⟨ret_bool (by simp), q6.out⟩
    · rw [if_neg hbig] at hpf
      replace hpf := hid_mk hpf
      have hi1 : ¬ (400 : Int) < (V.size : Int) := by omega
      replace hok := hid_mk hok
      refine calls_of_wpQ Tryd.func3 rfl ?_
      intro Q hQ
      simp only [Tryd.ntmps3, List.size_toArray, List.length_cons, List.length_nil, Nat.reduceAdd, Nat.reduceSub, Array.replicate_succ, Array.replicate_zero, List.push_toArray, List.append_toArray, List.nil_append, List.cons_append]
      go_wp2_with fail
      refine (Print_any l A n c w B hn h.out ht.out).mono ?_
      rw [hpf.out]
      rintro e w1 ⟨rfl, hb⟩
      have q1 := hid_mk hb
      clear hb
      go_wp2_with fail
      refine (Right_any l A n c _ B hn (h.out.to q1.out)).mono ?_
      rw [hok.out]
      rintro e w2 ⟨rfl, hb⟩
      have q2 := hid_mk (after (w := w) hb q1.out).1
      clear hb
      go_wp2_with fail
      refine (refRight_any l A n c _ B hn (h.out.to q2.out)).mono ?_
      rw [hok.out]
      rintro e w3 ⟨rfl, hb⟩
      have q3 := hid_mk (after (w := w) hb q2.out).1
      clear hb
      go_wp2_with fail
      refine (alive_any _).mono ?_
      rintro e w4 ⟨rfl, hb⟩
      have q4 := hid_mk (after (w := w) hb q3.out).1
      clear hb
      go_wp2_with fail
      refine (refRight_any l A n c _ B hn (h.out.to q4.out)).mono ?_
      rw [hok.out]
      rintro e w5 ⟨rfl, hb⟩
      have q5 := hid_mk (after (w := w) hb q4.out).1
      clear hb
      go_wp2_with fail
      refine (refText_any l A n c _ B hok.out (h.out.to q5.out) (ht.out.to q5.out)).mono ?_
      rw [hV.out]
      rintro e w6 ⟨rfl, hb⟩
      have q6 := hid_mk (after (w := w) hb q5.out).1
      clear hb
      go_wp2
      refine ends_ret hQ (results_tmp rfl _ _ _) rfl ?_
      exact ⟨ret_bool (by simp), q6.out⟩
theorem LawPrints_walk {w : World} (ht : Tab w) (a : Option Addr) (len cap : Nat) (l : List (List Rl)) (h : Rule w w.heap.size a len l) (_lc : len ≤ cap) (hn : len ≤ 8796093022208) :
    Calls Tryd.prog 3 #[.slice a len cap] w fun e w' => e = .returned (.bool true) ∧ Below w.heap.size w w' := LawPrints_any l a len cap w _ hn h ht
end Go.Proofs.YtfafinnklniniaaDoor
