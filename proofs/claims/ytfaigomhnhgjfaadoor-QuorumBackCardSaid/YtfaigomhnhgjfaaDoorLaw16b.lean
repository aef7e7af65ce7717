/-
  WHAT IS PROVED HERE: the walk of the law QuorumBack: it returns true and writes nothing that was there. Conditions: at most 2^47 voters; the variable internal/bytealg.MaxLen holds a number.
-/
import Derived.Test.YtfaigomhnhgjfaaDoorLaw16v
import Derived.Test.YtfaigomhnhgjfaaDoorQuorum2
import Derived.Test.YtfaigomhnhgjfaaDoorQuorumP
namespace Go.Proofs.YtfaigomhnhgjfaaDoor
open Go.RowKit

theorem next_symm (xs ys : List Int) : nextL ys xs = nextL xs ys := by
  unfold nextL
  rw [Bool.and_comm (rightL ys), Nat.add_comm (ys.length - cntL xs ys)]
theorem next_self (xs : List Int) : nextL xs xs = false := by
  unfold nextL
  have : decide ((xs.length - cntL xs xs) + (xs.length - cntL xs xs) = 1) = false := by simp; omega
  rw [this, Bool.and_false]
theorem Next_nx (a : Option Addr) (len cap : Nat) (xs : List Int) (a' : Option Addr) (len' cap' : Nat) (ys : List Int) (w : World) (B : Nat) (hm : len ≤ 140737488355328) (hm' : len' ≤ 140737488355328)
    (h : Ints w B a len xs) (h' : Ints w B a' len' ys) :
    Calls Tryd.prog 16 #[.slice a len cap, .slice a' len' cap'] w fun e w' => e = .returned (.bool (nextL xs ys)) ∧ Below w.heap.size w w' := by
  have h1 := h.len
  have h2 := h'.len
  refine (Next_any a len cap xs a' len' cap' ys w B hm hm' h h').mono ?_
  rw [← h1, ← h2, next_eq]
  exact fun _ _ h => h
set_option maxHeartbeats 1600000 in
theorem LawBack_any (a : Option Addr) (len cap : Nat) (xs : List Int) (a1 : Option Addr) (len1 cap1 : Nat) (ys : List Int) (s : ByteArray) (w : World) (m : Int) (hm : w.cell? ⟨0, 0, none⟩ = some (.int .i64 m)) (hl : len ≤ 140737488355328) (hl1 : len1 ≤ 140737488355328) (h0 : Ints w w.heap.size a len xs) (h1 : Ints w w.heap.size a1 len1 ys) :
    Calls Tryd.prog 5 #[.slice a len cap, .slice a1 len1 cap1, .string s] w fun e w' => e = .returned (.bool true) ∧ Below w.heap.size w w' := by
  have hm2 : Hid (∀ w', Below w.heap.size w w' → w'.cell? ⟨0, 0, none⟩ = some (.int .i64 m)) := fun w' hb => (hb.cell (p := ⟨0, 0, none⟩) (cell_lt hm)).trans hm
  clear hm
  replace h0 := hid_mk h0
  replace h1 := hid_mk h1
  have hsy := hid_mk (next_symm xs ys)
  have hse := hid_mk (next_self xs)
  obtain ⟨nb, hnb⟩ : ∃ nb, nextL xs ys = nb := ⟨_, rfl⟩
  rw [hnb] at hsy
  replace hnb := hid_mk hnb
  rcases hp : parseQ s.data.toList with _ | o
  · replace hp := hid_mk hp
    cases hr : rightL xs
    · replace hr := hid_mk hr
      refine calls_of_wpQ Tryd.func5 rfl ?_
      intro Q hQ
      simp only [Tryd.ntmps5, List.size_toArray, List.length_cons, List.length_nil, Nat.reduceAdd, Nat.reduceSub, Array.replicate_succ, Array.replicate_zero, List.push_toArray, List.append_toArray, List.nil_append, List.cons_append]
      go_wp2_with fail
      refine (Text_no a len cap xs w _ hl h0.out hr.out).mono ?_
      rintro e w1 ⟨rfl, hb⟩
      have q1 := hid_mk hb
      clear hb
      go_wp2_with fail
      refine (Parse_no s _ m (hm2.out _ q1.out) hp.out).mono ?_
      rintro e w2 ⟨A2, c2, rfl, hb⟩
      have q2 := hid_mk (after (w := w) hb q1.out).1
      clear hb
      go_wp2_with fail
      refine (alive_any _).mono ?_
      rintro e w3 ⟨rfl, hb⟩
      have q3 := hid_mk (after (w := w) hb q2.out).1
      clear hb
      go_wp2_with fail
      refine (Next_nx a len cap xs a1 len1 cap1 ys _ _ hl hl1 (h0.out.to q3.out) (h1.out.to q3.out)).mono ?_
      rw [hnb.out]
      rintro e w4 ⟨rfl, hb⟩
      have q4 := hid_mk (after (w := w) hb q3.out).1
      clear hb
      go_wp2_with fail
      refine (Next_nx a1 len1 cap1 ys a len cap xs _ _ hl1 hl (h1.out.to q4.out) (h0.out.to q4.out)).mono ?_
      rw [hsy.out]
      rintro e w5 ⟨rfl, hb⟩
      have q5 := hid_mk (after (w := w) hb q4.out).1
      clear hb
      go_wp2_with fail
      refine (Next_nx a len cap xs a len cap xs _ _ hl hl (h0.out.to q5.out) (h0.out.to q5.out)).mono ?_
      rw [hse.out]
      rintro e w6 ⟨rfl, hb⟩
      have q6 := hid_mk (after (w := w) hb q5.out).1
      clear hb
      go_wp2
      refine ends_ret hQ (results_tmp rfl _ _ _) rfl ?_
      exact ⟨ret_bool (by simp), q6.out⟩
    · have hpt : Hid (parseQ (⟨(txtL xs).toArray⟩ : ByteArray).data.toList = some xs) := parse_txt hr
      replace hr := hid_mk hr
      refine calls_of_wpQ Tryd.func5 rfl ?_
      intro Q hQ
      simp only [Tryd.ntmps5, List.size_toArray, List.length_cons, List.length_nil, Nat.reduceAdd, Nat.reduceSub, Array.replicate_succ, Array.replicate_zero, List.push_toArray, List.append_toArray, List.nil_append, List.cons_append]
      go_wp2_with fail
      refine (Text_yes a len cap xs w _ hl h0.out hr.out).mono ?_
      rintro e w1 ⟨rfl, hb⟩
      have q1 := hid_mk hb
      clear hb
      go_wp2_with fail
      refine (Parse_yes ⟨(txtL xs).toArray⟩ _ m (hm2.out _ q1.out) hpt.out).mono ?_
      rintro e w2 ⟨A, n, c, rfl, hI, hnc, hn7, hb⟩
      have q2 := hid_mk (after (w := w) hb q1.out).1
      clear hb
      go_wp2_with fail
      refine (Ints_any A n c xs a len cap xs _ _ _ (by omega) (by omega) hI (h0.out.to q2.out)).mono ?_
      rw [decide_eq_true (rfl : xs = xs)]
      rintro e w3 ⟨rfl, hb⟩
      have q3 := hid_mk (after (w := w) hb q2.out).1
      clear hb
      clear hI hnc hn7
      go_wp2_with fail
      refine (Parse_no s _ m (hm2.out _ q3.out) hp.out).mono ?_
      rintro e w4 ⟨A2, c2, rfl, hb⟩
      have q4 := hid_mk (after (w := w) hb q3.out).1
      clear hb
      go_wp2_with fail
      refine (alive_any _).mono ?_
      rintro e w5 ⟨rfl, hb⟩
      have q5 := hid_mk (after (w := w) hb q4.out).1
      clear hb
      go_wp2_with fail
      refine (Next_nx a len cap xs a1 len1 cap1 ys _ _ hl hl1 (h0.out.to q5.out) (h1.out.to q5.out)).mono ?_
      rw [hnb.out]
      rintro e w6 ⟨rfl, hb⟩
      have q6 := hid_mk (after (w := w) hb q5.out).1
      clear hb
      go_wp2_with fail
      refine (Next_nx a1 len1 cap1 ys a len cap xs _ _ hl1 hl (h1.out.to q6.out) (h0.out.to q6.out)).mono ?_
      rw [hsy.out]
      rintro e w7 ⟨rfl, hb⟩
      have q7 := hid_mk (after (w := w) hb q6.out).1
      clear hb
      go_wp2_with fail
      refine (Next_nx a len cap xs a len cap xs _ _ hl hl (h0.out.to q7.out) (h0.out.to q7.out)).mono ?_
      rw [hse.out]
      rintro e w8 ⟨rfl, hb⟩
      have q8 := hid_mk (after (w := w) hb q7.out).1
      clear hb
      go_wp2
      refine ends_ret hQ (results_tmp rfl _ _ _) rfl ?_
      exact ⟨ret_bool (by simp), q8.out⟩
  · have hro := hid_mk (parse_right hp)
    have hst : Hid ((⟨(txtL o).toArray⟩ : ByteArray) = s) := by rw [Hid, txt_parse hp]
    replace hp := hid_mk hp
    cases hr : rightL xs
    · replace hr := hid_mk hr
      refine calls_of_wpQ Tryd.func5 rfl ?_
      intro Q hQ
      simp only [Tryd.ntmps5, List.size_toArray, List.length_cons, List.length_nil, Nat.reduceAdd, Nat.reduceSub, Array.replicate_succ, Array.replicate_zero, List.push_toArray, List.append_toArray, List.nil_append, List.cons_append]
      go_wp2_with fail
      refine (Text_no a len cap xs w _ hl h0.out hr.out).mono ?_
      rintro e w1 ⟨rfl, hb⟩
      have q1 := hid_mk hb
      clear hb
      go_wp2_with fail
      refine (Parse_yes s _ m (hm2.out _ q1.out) hp.out).mono ?_
      rintro e w2 ⟨A2, n2, c2, rfl, hJ, hnc2, hn27, hb⟩
      have q2 := hid_mk (after (w := w) hb q1.out).1
      clear hb
      go_wp2_with fail
      refine (Text_yes A2 n2 c2 o _ _ (by omega) hJ hro.out).mono ?_
      rw [hst.out]
      rintro e w3 ⟨rfl, hb⟩
      have q3 := hid_mk (after (w := w) hb q2.out).1
      clear hb
      clear hJ hnc2 hn27
      go_wp2_with fail
      refine (alive_any _).mono ?_
      rintro e w4 ⟨rfl, hb⟩
      have q4 := hid_mk (after (w := w) hb q3.out).1
      clear hb
      go_wp2_with fail
      refine (Next_nx a len cap xs a1 len1 cap1 ys _ _ hl hl1 (h0.out.to q4.out) (h1.out.to q4.out)).mono ?_
      rw [hnb.out]
      rintro e w5 ⟨rfl, hb⟩
      have q5 := hid_mk (after (w := w) hb q4.out).1
      clear hb
      go_wp2_with fail
      refine (Next_nx a1 len1 cap1 ys a len cap xs _ _ hl1 hl (h1.out.to q5.out) (h0.out.to q5.out)).mono ?_
      rw [hsy.out]
      rintro e w6 ⟨rfl, hb⟩
      have q6 := hid_mk (after (w := w) hb q5.out).1
      clear hb
      go_wp2_with fail
      refine (Next_nx a len cap xs a len cap xs _ _ hl hl (h0.out.to q6.out) (h0.out.to q6.out)).mono ?_
      rw [hse.out]
      rintro e w7 ⟨rfl, hb⟩
      have q7 := hid_mk (after (w := w) hb q6.out).1
      clear hb
      go_wp2
      refine ends_ret hQ (results_tmp rfl _ _ _) rfl ?_
      exact ⟨ret_bool (by simp), q7.out⟩
    · have hpt : Hid (parseQ (⟨(txtL xs).toArray⟩ : ByteArray).data.toList = some xs) := parse_txt hr
      replace hr := hid_mk hr
      refine calls_of_wpQ Tryd.func5 rfl ?_
      intro Q hQ
      simp only [Tryd.ntmps5, List.size_toArray, List.length_cons, List.length_nil, Nat.reduceAdd, Nat.reduceSub, Array.replicate_succ, Array.replicate_zero, List.push_toArray, List.append_toArray, List.nil_append, List.cons_append]
      go_wp2_with fail
      refine (Text_yes a len cap xs w _ hl h0.out hr.out).mono ?_
      rintro e w1 ⟨rfl, hb⟩
      have q1 := hid_mk hb
      clear hb
      go_wp2_with fail
      refine (Parse_yes ⟨(txtL xs).toArray⟩ _ m (hm2.out _ q1.out) hpt.out).mono ?_
      rintro e w2 ⟨A, n, c, rfl, hI, hnc, hn7, hb⟩
      have q2 := hid_mk (after (w := w) hb q1.out).1
      clear hb
      go_wp2_with fail
      refine (Ints_any A n c xs a len cap xs _ _ _ (by omega) (by omega) hI (h0.out.to q2.out)).mono ?_
      rw [decide_eq_true (rfl : xs = xs)]
      rintro e w3 ⟨rfl, hb⟩
      have q3 := hid_mk (after (w := w) hb q2.out).1
      clear hb
      clear hI hnc hn7
      go_wp2_with fail
      refine (Parse_yes s _ m (hm2.out _ q3.out) hp.out).mono ?_
      rintro e w4 ⟨A2, n2, c2, rfl, hJ, hnc2, hn27, hb⟩
      have q4 := hid_mk (after (w := w) hb q3.out).1
      clear hb
      go_wp2_with fail
      refine (Text_yes A2 n2 c2 o _ _ (by omega) hJ hro.out).mono ?_
      rw [hst.out]
      rintro e w5 ⟨rfl, hb⟩
      have q5 := hid_mk (after (w := w) hb q4.out).1
      clear hb
      clear hJ hnc2 hn27
      go_wp2_with fail
      refine (alive_any _).mono ?_
      rintro e w6 ⟨rfl, hb⟩
      have q6 := hid_mk (after (w := w) hb q5.out).1
      clear hb
      go_wp2_with fail
      refine (Next_nx a len cap xs a1 len1 cap1 ys _ _ hl hl1 (h0.out.to q6.out) (h1.out.to q6.out)).mono ?_
      rw [hnb.out]
      rintro e w7 ⟨rfl, hb⟩
      have q7 := hid_mk (after (w := w) hb q6.out).1
      clear hb
      go_wp2_with fail
      refine (Next_nx a1 len1 cap1 ys a len cap xs _ _ hl1 hl (h1.out.to q7.out) (h0.out.to q7.out)).mono ?_
      rw [hsy.out]
      rintro e w8 ⟨rfl, hb⟩
      have q8 := hid_mk (after (w := w) hb q7.out).1
      clear hb
      go_wp2_with fail
      refine (Next_nx a len cap xs a len cap xs _ _ hl hl (h0.out.to q8.out) (h0.out.to q8.out)).mono ?_
      rw [hse.out]
      rintro e w9 ⟨rfl, hb⟩
      have q9 := hid_mk (after (w := w) hb q8.out).1
      clear hb
      go_wp2
      refine ends_ret hQ (results_tmp rfl _ _ _) rfl ?_
      exact ⟨ret_bool (by simp), q9.out⟩
theorem LawBack_walk {w : World} (mm : Int) (hm : w.cell? ⟨0, 0, none⟩ = some (.int .i64 mm))
    (a0 : Option Addr) (len0 cap0 : Nat) (z0 : List Int) (i0 : Ints w w.heap.size a0 len0 z0) (_lc0 : len0 ≤ cap0) (hs0 : cap0 * 8 ≤ 140737488351232) (_b0 : ∀ z ∈ z0, -9223372036854775808 ≤ z ∧ z ≤ 9223372036854775807)
    (a1 : Option Addr) (len1 cap1 : Nat) (z1 : List Int) (i1 : Ints w w.heap.size a1 len1 z1) (_lc1 : len1 ≤ cap1) (hs1 : cap1 * 8 ≤ 140737488351232) (_b1 : ∀ z ∈ z1, -9223372036854775808 ≤ z ∧ z ≤ 9223372036854775807)
    (s1 : ByteArray) (_hs1 : s1.size ≤ 140737488351232) :
    Calls Tryd.prog 5 #[.slice a0 len0 cap0, .slice a1 len1 cap1, .string s1] w fun e w' => e = .returned (.bool true) ∧ Below w.heap.size w w' :=
  LawBack_any _ _ _ _ _ _ _ _ _ _ mm hm (by omega) (by omega) i0 i1
end Go.Proofs.YtfaigomhnhgjfaaDoor
