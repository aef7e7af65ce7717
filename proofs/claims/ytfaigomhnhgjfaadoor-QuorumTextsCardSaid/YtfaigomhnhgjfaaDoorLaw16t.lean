/-
  WHAT IS PROVED HERE: the walk of the law QuorumTexts: it returns true and writes nothing that was there. Conditions: at most 2^47 voters; the variable internal/bytealg.MaxLen holds a number.
-/
import Derived.Test.YtfaigomhnhgjfaaDoorLaw16v
namespace Go.Proofs.YtfaigomhnhgjfaaDoor
open Go.RowKit

set_option maxHeartbeats 1600000 in
theorem LawTexts_any (a : Option Addr) (len cap : Nat) (xs : List Int) (s : ByteArray) (w : World) (m : Int) (hm : w.cell? ⟨0, 0, none⟩ = some (.int .i64 m)) (hl : len ≤ 140737488355328) (h0 : Ints w w.heap.size a len xs) :
    Calls Tryd.prog 4 #[.slice a len cap, .string s] w fun e w' => e = .returned (.bool true) ∧ Below w.heap.size w w' := by
  have hlen := hid_mk h0.len
  have hm2 : Hid (∀ w', Below w.heap.size w w' → w'.cell? ⟨0, 0, none⟩ = some (.int .i64 m)) := fun w' hb => (hb.cell (p := ⟨0, 0, none⟩) (cell_lt hm)).trans hm
  clear hm
  replace h0 := hid_mk h0
  have hpq := parse_eq s.data.toList
  rcases hp : parseQ s.data.toList with _ | o
  · have hpr := hid_mk (hpq.symm.trans hp)
    clear hpq
    replace hp := hid_mk hp
    cases hr : rightL xs
    · replace hr := hid_mk hr
      refine calls_of_wpQ Tryd.func4 rfl ?_
      intro Q hQ
      simp only [Tryd.ntmps4, List.size_toArray, List.length_cons, List.length_nil, Nat.reduceAdd, Nat.reduceSub, Array.replicate_succ, Array.replicate_zero, List.push_toArray, List.append_toArray, List.nil_append, List.cons_append]
      go_wp2_with fail
      refine (Text_no a len cap xs w _ hl h0.out hr.out).mono ?_
      rintro e w1 ⟨rfl, hb⟩
      have q1 := hid_mk hb
      clear hb
      go_wp2_with fail
      refine (Parse_no s _ m (hm2.out _ q1.out) hp.out).mono ?_
      rintro e w2 ⟨A, c, rfl, hb⟩
      have q2 := hid_mk (after (w := w) hb q1.out).1
      clear hb
      go_wp2_with fail
      refine (refRight_any a len cap xs _ _ hl (h0.out.to q2.out)).mono ?_
      rw [hr.out]
      rintro e w3 ⟨rfl, rfl⟩
      go_wp2_with fail
      refine (RParse_no s _ hpr.out).mono ?_
      rintro e w4 ⟨A2, n2, c2, rfl, hb⟩
      have q4 := hid_mk (after (w := w) hb q2.out).1
      clear hb
      go_wp2_with fail
      refine (alive_any _).mono ?_
      rintro e w5 ⟨rfl, hb⟩
      have q5 := hid_mk (after (w := w) hb q4.out).1
      clear hb
      go_wp2_with fail
      refine (Right_any a len cap xs _ _ hl (h0.out.to q5.out)).mono ?_
      rw [hr.out]
      rintro e w6 ⟨rfl, rfl⟩
      go_wp2_with fail
      refine (refRight_any a len cap xs _ _ hl (h0.out.to q5.out)).mono ?_
      rw [hr.out]
      rintro e w7 ⟨rfl, rfl⟩
      go_wp2
      refine ends_ret hQ (results_tmp rfl _ _ _) rfl ?_
      exact ⟨ret_bool (by simp), q5.out⟩
    · replace hr := hid_mk hr
      refine calls_of_wpQ Tryd.func4 rfl ?_
      intro Q hQ
      simp only [Tryd.ntmps4, List.size_toArray, List.length_cons, List.length_nil, Nat.reduceAdd, Nat.reduceSub, Array.replicate_succ, Array.replicate_zero, List.push_toArray, List.append_toArray, List.nil_append, List.cons_append]
      go_wp2_with fail
      refine (Text_yes a len cap xs w _ hl h0.out hr.out).mono ?_
      rintro e w1 ⟨rfl, hb⟩
      have q1 := hid_mk hb
      clear hb
      go_wp2_with fail
      refine (Parse_no s _ m (hm2.out _ q1.out) hp.out).mono ?_
      rintro e w2 ⟨A, c, rfl, hb⟩
      have q2 := hid_mk (after (w := w) hb q1.out).1
      clear hb
      go_wp2_with fail
      refine (refRight_any a len cap xs _ _ hl (h0.out.to q2.out)).mono ?_
      rw [hr.out]
      rintro e w3 ⟨rfl, rfl⟩
      go_wp2_with fail
      refine (refText_any a len cap xs _ _ hr.out (h0.out.to q2.out)).mono ?_
      rintro e w4 ⟨rfl, hb⟩
      have q4 := hid_mk (after (w := w) hb q2.out).1
      clear hb
      go_wp2_with fail
      refine (RParse_no s _ hpr.out).mono ?_
      rintro e w5 ⟨A2, n2, c2, rfl, hb⟩
      have q5 := hid_mk (after (w := w) hb q4.out).1
      clear hb
      go_wp2_with fail
      refine (alive_any _).mono ?_
      rintro e w6 ⟨rfl, hb⟩
      have q6 := hid_mk (after (w := w) hb q5.out).1
      clear hb
      go_wp2_with fail
      refine (Right_any a len cap xs _ _ hl (h0.out.to q6.out)).mono ?_
      rw [hr.out]
      rintro e w7 ⟨rfl, rfl⟩
      go_wp2_with fail
      refine (refRight_any a len cap xs _ _ hl (h0.out.to q6.out)).mono ?_
      rw [hr.out]
      rintro e w8 ⟨rfl, rfl⟩
      go_wp2
      refine ends_ret hQ (results_tmp rfl _ _ _) rfl ?_
      exact ⟨ret_bool (by simp), q6.out⟩
  · have hpr := hid_mk (hpq.symm.trans hp)
    clear hpq
    replace hp := hid_mk hp
    cases hr : rightL xs
    · replace hr := hid_mk hr
      refine calls_of_wpQ Tryd.func4 rfl ?_
      intro Q hQ
      simp only [Tryd.ntmps4, List.size_toArray, List.length_cons, List.length_nil, Nat.reduceAdd, Nat.reduceSub, Array.replicate_succ, Array.replicate_zero, List.push_toArray, List.append_toArray, List.nil_append, List.cons_append]
      go_wp2_with fail
      refine (Text_no a len cap xs w _ hl h0.out hr.out).mono ?_
      rintro e w1 ⟨rfl, hb⟩
      have q1 := hid_mk hb
      clear hb
      go_wp2_with fail
      refine (Parse_yes s _ m (hm2.out _ q1.out) hp.out).mono ?_
      rintro e w2 ⟨A, n, c, rfl, hI, hnc, hn7, hb⟩
      have q2 := hid_mk (after (w := w) hb q1.out).1
      clear hb
      replace hI := hid_mk hI
      go_wp2_with fail
      refine (refRight_any a len cap xs _ _ hl (h0.out.to q2.out)).mono ?_
      rw [hr.out]
      rintro e w3 ⟨rfl, rfl⟩
      go_wp2_with fail
      refine (RParse_yes s _ hpr.out).mono ?_
      rintro e w4 ⟨A2, n2, c2, rfl, hJ, hnc2, hn27, hb⟩
      have q4 := hid_mk (after (w := w) hb q2.out).1
      replace hI := hid_mk (hI.out.to hb)
      clear hb
      replace hJ := hid_mk hJ
      go_wp2_with fail
      refine (alive_any _).mono ?_
      rintro e w5 ⟨rfl, hb⟩
      have q5 := hid_mk (after (w := w) hb q4.out).1
      replace hI := hid_mk (hI.out.to hb)
      replace hJ := hid_mk (hJ.out.to hb)
      clear hb
      go_wp2_with fail
      refine (Right_any a len cap xs _ _ hl (h0.out.to q5.out)).mono ?_
      rw [hr.out]
      rintro e w6 ⟨rfl, rfl⟩
      go_wp2_with fail
      refine (refRight_any a len cap xs _ _ hl (h0.out.to q5.out)).mono ?_
      rw [hr.out]
      rintro e w7 ⟨rfl, rfl⟩
      go_wp2_with fail
      refine (Ints_any A n c o A2 n2 c2 o _ _ _ (by omega) (by omega) hI.out hJ.out).mono ?_
      rintro e w8 ⟨rfl, hb⟩
      have q8 := hid_mk (after (w := w) hb q5.out).1
      clear hb
      go_wp2
      refine ends_ret hQ (results_tmp rfl _ _ _) rfl ?_
      exact ⟨ret_bool (by simp), q8.out⟩
    · replace hr := hid_mk hr
      refine calls_of_wpQ Tryd.func4 rfl ?_
      intro Q hQ
      simp only [Tryd.ntmps4, List.size_toArray, List.length_cons, List.length_nil, Nat.reduceAdd, Nat.reduceSub, Array.replicate_succ, Array.replicate_zero, List.push_toArray, List.append_toArray, List.nil_append, List.cons_append]
      go_wp2_with fail
      refine (Text_yes a len cap xs w _ hl h0.out hr.out).mono ?_
      rintro e w1 ⟨rfl, hb⟩
      have q1 := hid_mk hb
      clear hb
      go_wp2_with fail
      refine (Parse_yes s _ m (hm2.out _ q1.out) hp.out).mono ?_
      rintro e w2 ⟨A, n, c, rfl, hI, hnc, hn7, hb⟩
      have q2 := hid_mk (after (w := w) hb q1.out).1
      clear hb
      replace hI := hid_mk hI
      go_wp2_with fail
      refine (refRight_any a len cap xs _ _ hl (h0.out.to q2.out)).mono ?_
      rw [hr.out]
      rintro e w3 ⟨rfl, rfl⟩
      go_wp2_with fail
      refine (refText_any a len cap xs _ _ hr.out (h0.out.to q2.out)).mono ?_
      rintro e w4 ⟨rfl, hb⟩
      have q4 := hid_mk (after (w := w) hb q2.out).1
      replace hI := hid_mk (hI.out.to hb)
      clear hb
      go_wp2_with fail
      refine (RParse_yes s _ hpr.out).mono ?_
      rintro e w5 ⟨A2, n2, c2, rfl, hJ, hnc2, hn27, hb⟩
      have q5 := hid_mk (after (w := w) hb q4.out).1
      replace hI := hid_mk (hI.out.to hb)
      clear hb
      replace hJ := hid_mk hJ
      go_wp2_with fail
      refine (alive_any _).mono ?_
      rintro e w6 ⟨rfl, hb⟩
      have q6 := hid_mk (after (w := w) hb q5.out).1
      replace hI := hid_mk (hI.out.to hb)
      replace hJ := hid_mk (hJ.out.to hb)
      clear hb
      go_wp2_with fail
      refine (Right_any a len cap xs _ _ hl (h0.out.to q6.out)).mono ?_
      rw [hr.out]
      rintro e w7 ⟨rfl, rfl⟩
      go_wp2_with fail
      refine (refRight_any a len cap xs _ _ hl (h0.out.to q6.out)).mono ?_
      rw [hr.out]
      rintro e w8 ⟨rfl, rfl⟩
      go_wp2_with fail
      refine (Ints_any A n c o A2 n2 c2 o _ _ _ (by omega) (by omega) hI.out hJ.out).mono ?_
      rintro e w9 ⟨rfl, hb⟩
      have q9 := hid_mk (after (w := w) hb q6.out).1
      clear hb
      go_wp2
      refine ends_ret hQ (results_tmp rfl _ _ _) rfl ?_
      exact ⟨ret_bool (by simp), q9.out⟩
theorem LawTexts_walk {w : World} (mm : Int) (hm : w.cell? ⟨0, 0, none⟩ = some (.int .i64 mm))
    (a0 : Option Addr) (len0 cap0 : Nat) (z0 : List Int) (i0 : Ints w w.heap.size a0 len0 z0) (_lc0 : len0 ≤ cap0) (hs0 : cap0 * 8 ≤ 140737488351232) (_b0 : ∀ z ∈ z0, -9223372036854775808 ≤ z ∧ z ≤ 9223372036854775807)
    (s1 : ByteArray) (_hs1 : s1.size ≤ 140737488351232) :
    Calls Tryd.prog 4 #[.slice a0 len0 cap0, .string s1] w fun e w' => e = .returned (.bool true) ∧ Below w.heap.size w w' :=
  LawTexts_any _ _ _ _ _ _ mm hm (by omega) i0
end Go.Proofs.YtfaigomhnhgjfaaDoor
