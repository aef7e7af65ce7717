/-
  WHAT IS PROVED HERE: the walk of the law QuorumSure: it returns true and writes nothing that was there. Conditions: at most 2^43 elements.
-/
import Derived.Test.YtfaigomhnhgjfaaQuorumU
import Derived.Test.YtfaigomhnhgjfaaOpenP
namespace Go.Proofs.Ytfaigomhnhgjfaa
open Go.RowKit

theorem peerJ : (Try.prog.info? 37).isSome = true := by kernel_rfl
theorem sure_same {self last : Int} {ps : List Pr} {xs : List Int} {m : Int} (hr : rightL xs = true) (h0 : 0 ≤ last) (hm : (sorted (xs.map (haveV self last ps)))[(xs.length - 1) / 2]? = some m) : refSureL self last ps xs = m := by
  unfold refSureL
  rw [if_pos hr]
  have hmem : m ∈ xs.map (haveV self last ps) := (sorted_perm _).mem_iff.1 (List.mem_of_getElem? hm)
  obtain ⟨v, _, hv⟩ := List.mem_map.1 hmem
  have hb : 0 ≤ m ∧ m ≤ last := by
    rw [← hv]
    unfold haveV
    have := most_ge v ps 0
    split <;> omega
  exact sure_eq self last ps xs m hm hb.1 hb.2 last.toNat (by omega) (by omega)
theorem alive_any (w : World) : Calls Try.prog 6 #[] w fun e w' => e = .returned (.bool true) ∧ Below w.heap.size w w' := by
  have hb : Below w.heap.size w (w.alloc (.cells #[.int .i64 1] 3)) := (Below.refl _ w).alloc (Nat.le_refl _) _
  have hI : Ints (w.alloc (.cells #[.int .i64 1] 3)) 0 (some ⟨w.heap.size, 0, none⟩) 1 [1] := reads_new w #[.int .i64 1] 3 1 1 0 rfl
  go_enter Try.func6, Try.ntmps6
  go_wp2_with (go_at_call 14; refine (Right_any _ _ _ [1] _ _ (by omega) hI).mono ?_; rintro e w' ⟨rfl, rfl⟩)
  go_ret
  exact ⟨ret_bool (by rfl), hb⟩
theorem Ints.top {w : World} {B n : Nat} {A : Option Addr} {xs : List Int} (h : Ints w B A n xs) : Ints w w.heap.size A n xs := ⟨h.1, fun hn => by obtain ⟨b, o, e1, e2, _, e3⟩ := h.2 hn; exact ⟨b, o, e1, e2, .inl e2, e3⟩⟩
set_option maxHeartbeats 1600000 in
theorem LawSure_any (a : Option Addr) (len cap : Nat) (xs : List Int) (self last : Int) (A : Option Addr) (n pc : Nat) (ps : List Pr) (w : World) (hl : len ≤ 140737488355328) (hm : n ≤ 8796093022208) (hnc : n ≤ pc) (h0 : Ints w w.heap.size a len xs) (k0 : Prs w w.heap.size A n ps) :
    Calls Try.prog 5 #[.slice a len cap, .int .i64 self, .int .i64 last, .slice A n pc] w fun e w' => e = .returned (.bool true) ∧ Below w.heap.size w w' := by
  obtain ⟨j0, hj0⟩ := Option.isSome_iff_exists.1 peerJ
  obtain ⟨L, hL⟩ : ∃ L, min last 500 = L := ⟨_, rfl⟩
  have hL5 : L ≤ 500 := by omega
  by_cases hn : 60 < n
  · have hsl := fun W : World => run_slice_upto (P := Try.prog) (w := W) 26 37 Try.underlying26 j0 hj0 A n pc 60 (by omega) (by omega)
    have k0 := k0.take (k := 60) (by omega)
    by_cases hneg : L < 0
    · have hngb : ¬ 0 ≤ min last 500 := by omega
      replace hL := hid_mk hL
      refine calls_of_wpQ Try.func5 rfl ?_
      intro Q hQ
      simp only [Try.ntmps5, List.size_toArray, List.length_cons, List.length_nil, Nat.reduceAdd, Nat.reduceSub, Array.replicate_succ, Array.replicate_zero, List.push_toArray, List.append_toArray, List.nil_append, List.cons_append]
      go_wp2_with fail
      refine (alive_any _).mono ?_
      rintro e w1 ⟨rfl, hb1⟩
      have i1 := (h0.to hb1).top
      rw [hL.out]
      go_wp2_with fail
      refine (Sure_none a len cap xs self L A 60 pc _ hl i1 (.inr hneg)).mono ?_
      rintro e w2 ⟨rfl, hb2⟩
      have q2 := (after (w := w) hb2 hb1).1
      go_wp2
      refine ends_ret hQ (results_tmp rfl _ _ _) rfl ?_
      exact ⟨rfl, q2⟩
    · have hpos : 0 ≤ L := by omega
      have hposb : 0 ≤ min last 500 := by omega
      obtain ⟨R, hR⟩ : ∃ R, refSureL self L (ps.take 60) xs = R := ⟨_, rfl⟩
      cases hr : rightL xs
      · have hR0 : R = 0 := by rw [← hR]; unfold refSureL; rw [hr]; rfl
        subst hR0
        replace hR := hid_mk hR
        replace hr := hid_mk hr
        replace hL := hid_mk hL
        refine calls_of_wpQ Try.func5 rfl ?_
        intro Q hQ
        simp only [Try.ntmps5, List.size_toArray, List.length_cons, List.length_nil, Nat.reduceAdd, Nat.reduceSub, Array.replicate_succ, Array.replicate_zero, List.push_toArray, List.append_toArray, List.nil_append, List.cons_append]
        go_wp2_with fail
        rw [hL.out]
        refine (refSure_any a len cap xs self L A 60 pc _ _ hl (by omega) h0 k0 (by omega)).mono ?_
        rw [hR.out]
        rintro e w0 ⟨rfl, hb0⟩
        have i0 := (h0.to hb0).top
        have q0 := hid_mk hb0
        clear hb0
        go_wp2_with fail
        refine (alive_any _).mono ?_
        rintro e w1 ⟨rfl, hb1⟩
        have i1 := (i0.to hb1).top
        have q1 := hid_mk (after (w := w) hb1 q0.out).1
        clear hb1
        go_wp2_with fail
        refine (Sure_none a len cap xs self L A 60 pc _ hl i1 (.inl hr.out)).mono ?_
        rintro e w2 ⟨rfl, hb2⟩
        have q2 := hid_mk (after (w := w) hb2 q1.out).1
        clear hb2
        go_wp2
        refine ends_ret hQ (results_tmp rfl _ _ _) rfl ?_
        exact ⟨rfl, q2.out⟩
      · replace hR := hid_mk hR
        replace hr := hid_mk hr
        replace hL := hid_mk hL
        refine calls_of_wpQ Try.func5 rfl ?_
        intro Q hQ
        simp only [Try.ntmps5, List.size_toArray, List.length_cons, List.length_nil, Nat.reduceAdd, Nat.reduceSub, Array.replicate_succ, Array.replicate_zero, List.push_toArray, List.append_toArray, List.nil_append, List.cons_append]
        go_wp2_with fail
        rw [hL.out]
        refine (refSure_any a len cap xs self L A 60 pc _ _ hl (by omega) h0 k0 (by omega)).mono ?_
        rw [hR.out]
        rintro e w0 ⟨rfl, hb0⟩
        have i0 := (h0.to hb0).top
        have p0 := (k0.to hb0).top
        have q0 := hid_mk hb0
        clear hb0
        go_wp2_with fail
        refine (alive_any _).mono ?_
        rintro e w1 ⟨rfl, hb1⟩
        have i1 := (i0.to hb1).top
        have p1 := (p0.to hb1).top
        have q1 := hid_mk (after (w := w) hb1 q0.out).1
        clear hb1
        go_wp2_with fail
        refine (Sure_any a len cap xs self L A 60 pc _ _ hl (by omega) i1 p1 hr.out hpos).mono ?_
        rintro e w2 ⟨⟨m, rfl, hmm⟩, hb2⟩
        have q2 := hid_mk (after (w := w) hb2 q1.out).1
        have hmR : m = R := by rw [← hR.out]; exact (sure_same hr.out hpos hmm).symm
        subst hmR
        clear hb2 hmm
        go_wp2
        refine ends_ret hQ (results_tmp rfl _ _ _) rfl ?_
        exact ⟨ret_bool (by simp), q2.out⟩
  · have hsl : True := trivial
    by_cases hneg : L < 0
    · have hngb : ¬ 0 ≤ min last 500 := by omega
      replace hL := hid_mk hL
      refine calls_of_wpQ Try.func5 rfl ?_
      intro Q hQ
      simp only [Try.ntmps5, List.size_toArray, List.length_cons, List.length_nil, Nat.reduceAdd, Nat.reduceSub, Array.replicate_succ, Array.replicate_zero, List.push_toArray, List.append_toArray, List.nil_append, List.cons_append]
      go_wp2_with fail
      refine (alive_any _).mono ?_
      rintro e w1 ⟨rfl, hb1⟩
      have i1 := (h0.to hb1).top
      rw [hL.out]
      go_wp2_with fail
      refine (Sure_none a len cap xs self L A n pc _ hl i1 (.inr hneg)).mono ?_
      rintro e w2 ⟨rfl, hb2⟩
      have q2 := (after (w := w) hb2 hb1).1
      go_wp2
      refine ends_ret hQ (results_tmp rfl _ _ _) rfl ?_
      exact ⟨rfl, q2⟩
    · have hpos : 0 ≤ L := by omega
      have hposb : 0 ≤ min last 500 := by omega
      obtain ⟨R, hR⟩ : ∃ R, refSureL self L (ps) xs = R := ⟨_, rfl⟩
      cases hr : rightL xs
      · have hR0 : R = 0 := by rw [← hR]; unfold refSureL; rw [hr]; rfl
        subst hR0
        replace hR := hid_mk hR
        replace hr := hid_mk hr
        replace hL := hid_mk hL
        refine calls_of_wpQ Try.func5 rfl ?_
        intro Q hQ
        simp only [Try.ntmps5, List.size_toArray, List.length_cons, List.length_nil, Nat.reduceAdd, Nat.reduceSub, Array.replicate_succ, Array.replicate_zero, List.push_toArray, List.append_toArray, List.nil_append, List.cons_append]
        go_wp2_with fail
        rw [hL.out]
        refine (refSure_any a len cap xs self L A n pc _ _ hl (by omega) h0 k0 (by omega)).mono ?_
        rw [hR.out]
        rintro e w0 ⟨rfl, hb0⟩
        have i0 := (h0.to hb0).top
        have q0 := hid_mk hb0
        clear hb0
        go_wp2_with fail
        refine (alive_any _).mono ?_
        rintro e w1 ⟨rfl, hb1⟩
        have i1 := (i0.to hb1).top
        have q1 := hid_mk (after (w := w) hb1 q0.out).1
        clear hb1
        go_wp2_with fail
        refine (Sure_none a len cap xs self L A n pc _ hl i1 (.inl hr.out)).mono ?_
        rintro e w2 ⟨rfl, hb2⟩
        have q2 := hid_mk (after (w := w) hb2 q1.out).1
        clear hb2
        go_wp2
        refine ends_ret hQ (results_tmp rfl _ _ _) rfl ?_
        exact ⟨rfl, q2.out⟩
      · replace hR := hid_mk hR
        replace hr := hid_mk hr
        replace hL := hid_mk hL
        refine calls_of_wpQ Try.func5 rfl ?_
        intro Q hQ
        simp only [Try.ntmps5, List.size_toArray, List.length_cons, List.length_nil, Nat.reduceAdd, Nat.reduceSub, Array.replicate_succ, Array.replicate_zero, List.push_toArray, List.append_toArray, List.nil_append, List.cons_append]
        go_wp2_with fail
        rw [hL.out]
        refine (refSure_any a len cap xs self L A n pc _ _ hl (by omega) h0 k0 (by omega)).mono ?_
        rw [hR.out]
        rintro e w0 ⟨rfl, hb0⟩
        have i0 := (h0.to hb0).top
        have p0 := (k0.to hb0).top
        have q0 := hid_mk hb0
        clear hb0
        go_wp2_with fail
        refine (alive_any _).mono ?_
        rintro e w1 ⟨rfl, hb1⟩
        have i1 := (i0.to hb1).top
        have p1 := (p0.to hb1).top
        have q1 := hid_mk (after (w := w) hb1 q0.out).1
        clear hb1
        go_wp2_with fail
        refine (Sure_any a len cap xs self L A n pc _ _ hl (by omega) i1 p1 hr.out hpos).mono ?_
        rintro e w2 ⟨⟨m, rfl, hmm⟩, hb2⟩
        have q2 := hid_mk (after (w := w) hb2 q1.out).1
        have hmR : m = R := by rw [← hR.out]; exact (sure_same hr.out hpos hmm).symm
        subst hmR
        clear hb2 hmm
        go_wp2
        refine ends_ret hQ (results_tmp rfl _ _ _) rfl ?_
        exact ⟨ret_bool (by simp), q2.out⟩
theorem LawSure_walk {w : World} (a0 : Option Addr) (len0 cap0 : Nat) (z0 : List Int) (i0 : Ints w w.heap.size a0 len0 z0) (_lc0 : len0 ≤ cap0) (hs0 : cap0 * 8 ≤ 140737488351232) (_b0 : ∀ z ∈ z0, -9223372036854775808 ≤ z ∧ z ≤ 9223372036854775807)
    (a1 : Int) (_lo1 : -9223372036854775808 ≤ a1) (_hi1 : a1 ≤ 9223372036854775807) (a2 : Int) (_lo2 : -9223372036854775808 ≤ a2) (_hi2 : a2 ≤ 9223372036854775807)
    (a3 : Option Addr) (len3 cap3 : Nat) (ps3 : List Pr) (i3 : Prs w w.heap.size a3 len3 ps3) (lc3 : len3 ≤ cap3) (hs3 : cap3 * 24 ≤ 140737488351232) :
    Calls Try.prog 5 #[.slice a0 len0 cap0, .int .i64 a1, .int .i64 a2, .slice a3 len3 cap3] w fun e w' => e = .returned (.bool true) ∧ Below w.heap.size w w' := LawSure_any a0 len0 cap0 z0 a1 a2 a3 len3 cap3 ps3 w (by omega) (by omega) lc3 i0 i3
end Go.Proofs.Ytfaigomhnhgjfaa
