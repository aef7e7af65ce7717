/-
  WHAT IS PROVED HERE: the walk of the law PluralBack: it returns true and writes nothing that was there. Conditions: at most 2^43 elements a slice; the variable internal/strconv.uint64pow10 holds the powers of ten.
-/
import Derived.Test.YtfafinnklniniaaDoorPluK
import Derived.Test.YtfafinnklniniaaDoorPluL
import Derived.Test.YtfafinnklniniaaDoorPlu7
import Derived.Test.YtfafinnklniniaaDoorPlu8
namespace Go.Proofs.YtfafinnklniniaaDoor
open Go.RowKit

theorem ba_eq {a b : ByteArray} (h : a.data.toList = b.data.toList) : a = b := by
  cases a; cases b
  congr 1
  exact Array.toList_inj.1 h
set_option maxHeartbeats 3200000 in
theorem LawBack_any (l : List (List Rl)) (A : Option Addr) (n c : Nat) (s : ByteArray) (w : World) (B : Nat) (hn : n ≤ 8796093022208) (h : Rule w B A n l) (ht : Tab w) :
    Calls Tryd.prog 4 #[.slice A n c, .string s] w fun e w' => e = .returned (.bool true) ∧ Below w.heap.size w w' := by
  replace h := hid_mk h
  replace ht := hid_mk ht
  obtain ⟨⟨t, er⟩, hpf⟩ : ∃ q, printF l = q := ⟨_, rfl⟩
  obtain ⟨⟨b, g, pl⟩, hp⟩ : ∃ q, parseF s.data.toList = q := ⟨_, rfl⟩
  have hsec : (g = 0 ∧ printF b = (s, 0)) ∨ (g ≠ 0 ∧ b = [] ∧ 0 ≤ pl ∧ pl ≤ (s.size : Int)) := by
    rcases Decidable.em (g = 0) with e | e
    · left
      obtain ⟨k1, k2, k3⟩ := back_read (sl := s.data.toList) (by rw [hp]; exact e)
      rw [hp] at k1 k2
      dsimp only at k1 k2
      have k4 : ruleB b = s := ba_eq k2
      have k5 : s.data.toList.length = s.size := rfl
      refine ⟨e, ?_⟩
      unfold printF
      rw [if_pos k1, k4, if_neg (by omega)]
    · right
      obtain ⟨k1, k2, k3⟩ := back_bad (sl := s.data.toList) (by rw [hp]; exact e)
      rw [hp] at k1 k2 k3
      exact ⟨e, k1, k2, k3⟩
  by_cases he : er = 0
  · subst he
    have hok : ruleOk l = true ∧ (ruleB l).size ≤ 400 ∧ ruleB l = t := by
      unfold printF at hpf
      split at hpf
      · rename_i h1
        split at hpf
        · cases hpf
        · injection hpf with h2 h3
          exact ⟨h1, by omega, h2⟩
      · cases hpf
    have hbk := back_print hok.1 hok.2.1
    rw [hok.2.2] at hbk
    clear hok
    replace hbk := hid_mk hbk
    rcases hsec with ⟨rfl, hpb⟩ | ⟨hg, rfl, hto0, hto1⟩
    · replace hpb := hid_mk hpb
      replace hpf := hid_mk hpf
      replace hp := hid_mk hp
      refine calls_of_wpQ Tryd.func4 rfl ?_
      intro Q hQ
      simp only [Tryd.ntmps4, List.size_toArray, List.length_cons, List.length_nil, Nat.reduceAdd, Nat.reduceSub, Array.replicate_succ, Array.replicate_zero, List.push_toArray, List.append_toArray, List.nil_append, List.cons_append]
      go_wp2_with fail
      refine (Print_any l A n c w B hn h.out ht.out).mono ?_
      rw [hpf.out]
      rintro e w1 ⟨rfl, hb⟩
      have q1 := hid_mk hb
      clear hb
      go_wp2_with fail
      refine (Parse_any t _).mono ?_
      rw [hbk.out]
      rintro e w2 ⟨A2, n2, c2, rfl, hR2, hn2, hb⟩
      have q2 := hid_mk (after (w := w) hb q1.out).1
      clear hb
      dsimp only at hR2 ⊢
      replace hR2 := hid_mk hR2
      go_wp2_with fail
      refine (Like_same l A2 n2 c2 A n c _ 0 B hn2 hR2.out (h.out.to q2.out)).mono ?_
      rintro e w3 ⟨rfl, hb⟩
      have q3 := hid_mk (after (w := w) hb q2.out).1
      clear hb
      go_wp2_with fail
      refine (Parse_any s _).mono ?_
      rw [hp.out]
      rintro e w4 ⟨A4, n4, c4, rfl, hR4, hn4, hb⟩
      have q4 := hid_mk (after (w := w) hb q3.out).1
      clear hb
      dsimp only at hR4 ⊢
      replace hR4 := hid_mk hR4
      go_wp2_with fail
      refine (Print_any b A4 n4 c4 _ 0 hn4 hR4.out (ht.out.to q4.out)).mono ?_
      rw [hpb.out]
      rintro e w5 ⟨rfl, hb⟩
      have q5 := hid_mk (after (w := w) hb q4.out).1
      clear hb
      go_wp2
      refine ends_ret hQ (results_tmp rfl _ _ _) rfl ?_
      exact ⟨ret_bool (by simp), q5.out⟩
    · replace hpf := hid_mk hpf
      replace hp := hid_mk hp
      refine calls_of_wpQ Tryd.func4 rfl ?_
      intro Q hQ
      simp only [Tryd.ntmps4, List.size_toArray, List.length_cons, List.length_nil, Nat.reduceAdd, Nat.reduceSub, Array.replicate_succ, Array.replicate_zero, List.push_toArray, List.append_toArray, List.nil_append, List.cons_append]
      go_wp2_with fail
      refine (Print_any l A n c w B hn h.out ht.out).mono ?_
      rw [hpf.out]
      rintro e w1 ⟨rfl, hb⟩
      have q1 := hid_mk hb
      clear hb
      go_wp2_with fail
      refine (Parse_any t _).mono ?_
      rw [hbk.out]
      rintro e w2 ⟨A2, n2, c2, rfl, hR2, hn2, hb⟩
      have q2 := hid_mk (after (w := w) hb q1.out).1
      clear hb
      dsimp only at hR2 ⊢
      replace hR2 := hid_mk hR2
      go_wp2_with fail
      refine (Like_same l A2 n2 c2 A n c _ 0 B hn2 hR2.out (h.out.to q2.out)).mono ?_
      rintro e w3 ⟨rfl, hb⟩
      have q3 := hid_mk (after (w := w) hb q2.out).1
      clear hb
      have hg2 : (g == 0) = false := by simpa using hg
      go_wp2_with fail
      refine (Parse_any s _).mono ?_
      rw [hp.out]
      rintro e w4 ⟨A4, n4, c4, rfl, hR4, hn4, hb⟩
      have q4 := hid_mk (after (w := w) hb q3.out).1
      clear hb
      dsimp only at hR4 ⊢
      obtain rfl : n4 = 0 := hR4.len.symm
      clear hR4 hn4
      go_wp2_with fail
      refine (alive_any _).mono ?_
      rintro e w5 ⟨rfl, hb⟩
      have q5 := hid_mk (after (w := w) hb q4.out).1
      clear hb
      go_wp2
      refine ends_ret hQ (results_tmp rfl _ _ _) rfl ?_
      exact ⟨ret_bool (by simp), q5.out⟩
  · have he2 : (er == 0) = false := by simpa using he
    rcases hsec with ⟨rfl, hpb⟩ | ⟨hg, rfl, hto0, hto1⟩
    · replace hpb := hid_mk hpb
      replace hpf := hid_mk hpf
      replace hp := hid_mk hp
      refine calls_of_wpQ Tryd.func4 rfl ?_
      intro Q hQ
      simp only [Tryd.ntmps4, List.size_toArray, List.length_cons, List.length_nil, Nat.reduceAdd, Nat.reduceSub, Array.replicate_succ, Array.replicate_zero, List.push_toArray, List.append_toArray, List.nil_append, List.cons_append]
      go_wp2_with fail
      refine (Print_any l A n c w B hn h.out ht.out).mono ?_
      rw [hpf.out]
      rintro e w1 ⟨rfl, hb⟩
      have q1 := hid_mk hb
      clear hb
      go_wp2_with fail
      refine (Parse_any s _).mono ?_
      rw [hp.out]
      rintro e w4 ⟨A4, n4, c4, rfl, hR4, hn4, hb⟩
      have q4 := hid_mk (after (w := w) hb q1.out).1
      clear hb
      dsimp only at hR4 ⊢
      replace hR4 := hid_mk hR4
      go_wp2_with fail
      refine (Print_any b A4 n4 c4 _ 0 hn4 hR4.out (ht.out.to q4.out)).mono ?_
      rw [hpb.out]
      rintro e w5 ⟨rfl, hb⟩
      have q5 := hid_mk (after (w := w) hb q4.out).1
      clear hb
      go_wp2
      refine ends_ret hQ (results_tmp rfl _ _ _) rfl ?_
      exact ⟨ret_bool (by simp), q5.out⟩
    · replace hpf := hid_mk hpf
      replace hp := hid_mk hp
      refine calls_of_wpQ Tryd.func4 rfl ?_
      intro Q hQ
      simp only [Tryd.ntmps4, List.size_toArray, List.length_cons, List.length_nil, Nat.reduceAdd, Nat.reduceSub, Array.replicate_succ, Array.replicate_zero, List.push_toArray, List.append_toArray, List.nil_append, List.cons_append]
      go_wp2_with fail
      refine (Print_any l A n c w B hn h.out ht.out).mono ?_
      rw [hpf.out]
      rintro e w1 ⟨rfl, hb⟩
      have q1 := hid_mk hb
      clear hb
      have hg2 : (g == 0) = false := by simpa using hg
      go_wp2_with fail
      refine (Parse_any s _).mono ?_
      rw [hp.out]
      rintro e w4 ⟨A4, n4, c4, rfl, hR4, hn4, hb⟩
      have q4 := hid_mk (after (w := w) hb q1.out).1
      clear hb
      dsimp only at hR4 ⊢
      obtain rfl : n4 = 0 := hR4.len.symm
      clear hR4 hn4
      go_wp2_with fail
      refine (alive_any _).mono ?_
      rintro e w5 ⟨rfl, hb⟩
      have q5 := hid_mk (after (w := w) hb q4.out).1
      clear hb
      go_wp2
      refine ends_ret hQ (results_tmp rfl _ _ _) rfl ?_
      exact ⟨ret_bool (by simp), q5.out⟩
theorem LawBack_walk {w : World} (ht : Tab w) (a : Option Addr) (len cap : Nat) (l : List (List Rl)) (h : Rule w w.heap.size a len l) (_lc : len ≤ cap) (hn : len ≤ 8796093022208) (s : ByteArray) (_hs : s.size ≤ 140737488351232) :
    Calls Tryd.prog 4 #[.slice a len cap, .string s] w fun e w' => e = .returned (.bool true) ∧ Below w.heap.size w w' := LawBack_any l a len cap s w _ hn h ht
end Go.Proofs.YtfafinnklniniaaDoor
