/-
  WHAT IS PROVED HERE: the walk of the law MerkleProves. No condition.
-/
import Derived.Test.YtlnncpilgpafdaaMrkA
namespace Go.Proofs.Ytlnncpilgpafdaa
open Go.RowKit

set_option maxHeartbeats 1600000 in
theorem LawProves_any (A : Option Addr) (n cap : Nat) (ss : List ByteArray) (i : Int) (w : World) (h0 : Strs w w.heap.size A n ss) (hc0 : n ≤ cap) (hcap : cap * 16 ≤ 140737488351232) :
    Calls Try.prog 4 #[.slice A n cap, .int .i64 i] w fun e w' => e = .returned (.bool true) ∧ Below w.heap.size w w' := by
  have h := cutS_strs h0
  have hcn := cutN_le n
  obtain ⟨m, hm⟩ : ∃ m, cutN n = m := ⟨_, rfl⟩
  obtain ⟨ls, hls⟩ : ∃ ls, cutS ss = ls := ⟨_, rfl⟩
  rw [hm] at h hcn
  rw [hls] at h
  have hmc : m ≤ cap := by omega
  have hmb : m ≤ 8796093022208 := by omega
  replace hm := hid_mk hm
  clear hls h0
  by_cases hr : rightS ls = 0
  · obtain ⟨hr1, hr2⟩ := rightS_0 hr
    have hlen := h.len
    have hm4 : m ≤ 4096 := by omega
    by_cases hi : 0 ≤ i ∧ i < m
    · obtain ⟨k, rfl⟩ := Int.eq_ofNat_of_zero_le hi.1
      have hkm : k < m := by omega
      have d1 : ¬ (k : Int) < 0 := by omega
      have d2 : ¬ (m : Int) ≤ k := by omega
      obtain ⟨pf, hpf⟩ : ∃ pf, proofW dB ls k = pf := ⟨_, rfl⟩
      replace hpf := hid_mk hpf
      replace hr := hid_mk hr
      replace hr2 := hid_mk hr2
      replace hlen := hid_mk hlen
      clear hr1 hi
      refine calls_of_wpQ Try.func4 rfl ?_
      intro Q hQ
      simp only [Try.ntmps4, List.size_toArray, List.length_cons, List.length_nil, Nat.reduceAdd, Nat.reduceSub, Array.replicate_succ, Array.replicate_zero, List.push_toArray, List.append_toArray, List.nil_append, List.cons_append]
      go_wp2_with fail
      refine (cut_any A n cap _ hc0 hcap).mono ?_
      rw [hm.out]
      rintro e w1 ⟨rfl, rfl⟩
      go_wp2_with fail
      refine (Prove_some A m cap ls k _ h hmc hr.out hkm).mono ?_
      rw [hpf.out]
      rintro e w2 ⟨A2, n2, c2, rfl, hc2, hS2, hb2⟩
      have h2 := Strs.to h hb2
      replace hb2 := hid_mk hb2
      go_wp2_with fail
      refine (RRight_any A m cap ls _ h2 (by omega)).mono ?_
      rw [hr.out]
      rintro e w3 ⟨rfl, rfl⟩
      go_wp2_with fail
      refine (RProof_some A m cap ls k _ h2 hm4 hr2.out hkm).mono ?_
      rw [hpf.out]
      rintro e w4 ⟨A4, n4, c4, rfl, hc4, hS4, hb4⟩
      have q4 := hid_mk (after (w := w) hb4 hb2.out).1
      have hS24 := Strs.to (Reads.topS hS2) hb4
      have hn2 : n2 ≤ 8796093022208 := by
        have h1 := hS2.len
        have h2 := proofW_len dB ls.length ls k (Nat.le_refl _)
        have h3 := hpf.out
        have h4 := hlen.out
        rw [h3] at h2
        omega
      clear hb4
      go_wp2_with fail
      refine (Like_same A2 n2 c2 A4 n4 c4 pf _ hS24 hS4 hn2).mono ?_
      rintro e w5 ⟨rfl, hb5⟩
      have q5 := hid_mk (after (w := w) hb5 q4.out).1
      clear hb5
      go_wp2
      refine ends_ret hQ (results_tmp rfl _ _ _) rfl ?_
      exact ⟨ret_bool rfl, q5.out⟩
    · have ho : i < 0 ∨ (m : Int) ≤ i := by omega
      replace hr := hid_mk hr
      replace hr2 := hid_mk hr2
      replace hlen := hid_mk hlen
      clear hr1 hi
      by_cases d1 : i < 0
      case' neg => have d2 : (m : Int) ≤ i := by omega
      all_goals
        have ho' := hid_mk ho
        clear ho
        refine calls_of_wpQ Try.func4 rfl ?_
        intro Q hQ
        simp only [Try.ntmps4, List.size_toArray, List.length_cons, List.length_nil, Nat.reduceAdd, Nat.reduceSub, Array.replicate_succ, Array.replicate_zero, List.push_toArray, List.append_toArray, List.nil_append, List.cons_append]
        go_wp2_with fail
        refine (cut_any A n cap _ hc0 hcap).mono ?_
        rw [hm.out]
        rintro e w1 ⟨rfl, rfl⟩
        go_wp2_with fail
        refine (Prove_out A m cap ls i _ h hmb hr.out ho'.out).mono ?_
        rintro e w2 ⟨rfl, rfl⟩
        go_wp2_with fail
        refine (RRight_any A m cap ls _ h (by omega)).mono ?_
        rw [hr.out]
        rintro e w3 ⟨rfl, rfl⟩
        go_wp2
        refine ends_ret hQ (results_tmp rfl _ _ _) rfl ?_
        exact ⟨ret_bool rfl, Below.refl _ _⟩
  · have hre0 := hr
    obtain ⟨r, hre⟩ : ∃ r, rightS ls = r := ⟨_, rfl⟩
    rw [hre] at hr
    have hne : (r != 0) = true := by simpa using hr
    have heq : (r == 0) = false := by simpa using hr
    replace hre := hid_mk hre
    replace hre0 := hid_mk hre0
    clear hr
    refine calls_of_wpQ Try.func4 rfl ?_
    intro Q hQ
    simp only [Try.ntmps4, List.size_toArray, List.length_cons, List.length_nil, Nat.reduceAdd, Nat.reduceSub, Array.replicate_succ, Array.replicate_zero, List.push_toArray, List.append_toArray, List.nil_append, List.cons_append]
    go_wp2_with fail
    refine (cut_any A n cap _ hc0 hcap).mono ?_
    rw [hm.out]
    rintro e w1 ⟨rfl, rfl⟩
    go_wp2_with fail
    refine (Prove_bad A m cap ls i _ h hmb hre0.out).mono ?_
    rw [hre.out]
    rintro e w2 ⟨rfl, rfl⟩
    go_wp2_with fail
    refine (RRight_any A m cap ls _ h (by omega)).mono ?_
    rw [hre.out]
    rintro e w3 ⟨rfl, rfl⟩
    go_wp2
    refine ends_ret hQ (results_tmp rfl _ _ _) rfl ?_
    exact ⟨ret_bool (by simp), Below.refl _ _⟩
theorem LawProves_walk (a0 : Option Addr) (len0 cap0 : Nat) (ss0 : List ByteArray) {w : World} (i0 : Strs w w.heap.size a0 len0 ss0) (lc0 : len0 ≤ cap0) (hs0 : cap0 * 16 ≤ 140737488351232) (_b0 : ∀ s ∈ ss0, s.size ≤ 140737488351232) (a1 : Int) (_lo1 : -9223372036854775808 ≤ a1) (_hi1 : a1 ≤ 9223372036854775807) :
    Calls Try.prog 4 #[.slice a0 len0 cap0, .int .i64 a1] w fun e w' => e = .returned (.bool true) ∧ Below w.heap.size w w' := LawProves_any a0 len0 cap0 ss0 a1 w i0 lc0 hs0
end Go.Proofs.Ytlnncpilgpafdaa
