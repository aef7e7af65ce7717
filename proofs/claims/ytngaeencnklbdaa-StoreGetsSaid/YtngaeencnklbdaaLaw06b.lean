/-
  WHAT IS PROVED HERE: the walk of the law StoreGets: it returns true and writes nothing that was there. No condition.
-/
import Derived.Test.YtngaeencnklbdaaSto4
namespace Go.Proofs.Ytngaeencnklbdaa
open Go.RowKit

theorem atI_lt (is : List Itm) (key : ByteArray) : -1 ≤ atI is key ∧ atI is key < is.length ∨ (atI is key = -1) := by
  have h : ∀ (l : List Itm) (k : Nat), atF key l k = -1 ∨ ((k : Int) ≤ atF key l k ∧ atF key l k < (k + l.length : Nat)) := by
    intro l
    induction l with
    | nil => intro k; left; rfl
    | cons x l ih =>
      intro k
      rw [atF]
      split
      · right; simp; omega
      · rcases ih (k + 1) with h | h
        · left; exact h
        · right; simp at h ⊢; omega
  rcases h is 0 with h | h
  · right; exact h
  · left; unfold atI; simp at h; omega
set_option maxRecDepth 100000 in
set_option maxHeartbeats 6400000 in
theorem LawGets_any (A : Option Addr) (n cap : Nat) (is0 : List Itm) (ky : ByteArray) (w : World) (h0 : Itms w w.heap.size A n is0) (hc0 : n ≤ cap) (hcap : cap * 40 ≤ 140737488351232) :
    Calls Try.prog 5 #[.agg #[.slice A n cap], .string ky] w fun e w' => e = .returned (.bool true) ∧ Below w.heap.size w w' := by
  have h := fewI_itms h0
  have hcn := fewN_le n
  obtain ⟨m, hm⟩ : ∃ m, fewN n = m := ⟨_, rfl⟩
  obtain ⟨is, his⟩ : ∃ l, fewI is0 = l := ⟨_, rfl⟩
  rw [hm] at h hcn
  rw [his] at h
  have hmc : m ≤ cap := by omega
  have hlen := hid_mk h.len
  have hb0 : Hid (Below w.heap.size w (w.alloc (.cells #[.slice A n cap] 24))) := (Below.refl _ w).alloc (Nat.le_refl _) _
  have hB0 : Hid (Blk (w.alloc (.cells #[.slice A n cap] 24)) w.heap.size 24 #[.slice A n cap]) := Blk.new w 24 #[.slice A n cap]
  replace hm := hid_mk hm
  replace his := hid_mk his
  clear h0
  cases hr : rightI is
  · have hE : Hid (getE is ky = (⟨#[]⟩, 1)) := by unfold Hid getE; rw [hr]; rfl
    replace hr := hid_mk hr
    refine calls_of_wpQ Try.func5 rfl ?_
    intro Q hQ
    simp only [Try.ntmps5, List.size_toArray, List.length_cons, List.length_nil, Nat.reduceAdd, Nat.reduceSub, Array.replicate_succ, Array.replicate_zero, List.push_toArray, List.append_toArray, List.nil_append, List.cons_append]
    go_wp2_with fail
    refine (few_any A n cap _ hc0 (by omega)).mono ?_
    rw [hm.out]
    rintro e w1 ⟨rfl, hb1⟩
    have q1 := hid_mk (after (w := w) hb1 hb0.out).1
    have hB1 := hid_mk (hB0.out.keep hb1)
    have z0 : w1.cell? ⟨w.heap.size, 0, none⟩ = some (.slice A n cap) := hB1.out.cell 0
    have z1 := hB1.out.frozen 0
    have z2 := hB1.out.lt
    have q2 : Hid (Below w.heap.size w (w1.setCell ⟨w.heap.size, 0, none⟩ (.slice A m cap))) := q1.out.setCell (p := ⟨w.heap.size, 0, none⟩) (by simp) _
    have hB2 : Hid (Blk (w1.setCell ⟨w.heap.size, 0, none⟩ (.slice A m cap)) w.heap.size 24 #[.slice A m cap]) := hB1.out.set_ 0 _
    clear hb1 hB0 hb0
    go_wp2_with fail
    obtain ⟨w2, hw2⟩ : ∃ u, w1.setCell ⟨w.heap.size, 0, none⟩ (.slice A m cap) = u := ⟨_, rfl⟩
    rw [hw2] at q2 hB2
    rw [hw2]
    clear z0 z1 z2 hB1 q1 hw2
    refine (Get_any is A m cap ky _ (by omega) (h.to q2.out)).mono ?_
    rw [hE.out]
    rintro e w3 ⟨rfl, hb3⟩
    have q3 := hid_mk (after (w := w) hb3 q2.out).1
    have hB3 := hid_mk (hB2.out.keep hb3)
    have x0 : w3.cell? ⟨w.heap.size, 0, none⟩ = some (.slice A m cap) := hB3.out.cell 0
    have hgx := hB3.out.lt
    clear hb3 hB2 q2
    go_wp2_with fail
    refine (RRight_any is A m cap _ (by omega) (h.to q3.out)).mono ?_
    rw [hr.out]
    rintro e w4 ⟨rfl, hb4⟩
    have q4 := hid_mk (after (w := w) hb4 q3.out).1
    have hB4 := hid_mk (hB3.out.keep hb4)
    have x1 : w4.cell? ⟨w.heap.size, 0, none⟩ = some (.slice A m cap) := hB4.out.cell 0
    have hgy := hB4.out.lt
    clear hb4 hB3 q3 x0 hgx
    go_wp2_with fail
    refine (alive_any _).mono ?_
    rintro e w9 ⟨rfl, hb9⟩
    have q9 := hid_mk (after (w := w) hb9 q4.out).1
    clear hb9
    go_wp2
    refine ends_ret hQ (results_tmp rfl _ _ _) rfl ?_
    exact ⟨ret_bool (by simp), q9.out⟩
  · obtain ⟨hl4, hok, _⟩ := rightI_all hr
    have hm4 : m ≤ 4096 := by rw [← hlen.out]; exact hl4
    have hbz : Hid (∀ i ∈ is, i.b.size ≤ 137438953472) := fun i hi => by have := itmOk_size (hok i hi); omega
    have hE2 : Hid (getE is ky = ((if atI is ky < 0 then (⟨#[]⟩, 60) else match is[(atI is ky).toNat]? with
      | none => (⟨#[]⟩, 60)
      | some i => if rotB i then (⟨#[]⟩, 61) else (i.b, 0)) : ByteArray × Int)) := by unfold Hid getE; rw [hr]; rfl
    have hal := atI_lt is ky
    obtain ⟨at_, hat⟩ : ∃ a, atI is ky = a := ⟨_, rfl⟩
    rw [hat] at hal hE2
    rw [hlen.out] at hal
    replace hr := hid_mk hr
    clear hl4 hok
    by_cases hneg : at_ < 0
    · have hE : Hid (getE is ky = (⟨#[]⟩, 60)) := by rw [Hid, hE2.out, if_pos hneg]
      have hd : decide (0 ≤ at_) = false := decide_eq_false (by omega)
      replace hat := hid_mk hat
      clear hal
      refine calls_of_wpQ Try.func5 rfl ?_
      intro Q hQ
      simp only [Try.ntmps5, List.size_toArray, List.length_cons, List.length_nil, Nat.reduceAdd, Nat.reduceSub, Array.replicate_succ, Array.replicate_zero, List.push_toArray, List.append_toArray, List.nil_append, List.cons_append]
      go_wp2_with fail
      refine (few_any A n cap _ hc0 (by omega)).mono ?_
      rw [hm.out]
      rintro e w1 ⟨rfl, hb1⟩
      have q1 := hid_mk (after (w := w) hb1 hb0.out).1
      have hB1 := hid_mk (hB0.out.keep hb1)
      have z0 : w1.cell? ⟨w.heap.size, 0, none⟩ = some (.slice A n cap) := hB1.out.cell 0
      have z1 := hB1.out.frozen 0
      have z2 := hB1.out.lt
      have q2 : Hid (Below w.heap.size w (w1.setCell ⟨w.heap.size, 0, none⟩ (.slice A m cap))) := q1.out.setCell (p := ⟨w.heap.size, 0, none⟩) (by simp) _
      have hB2 : Hid (Blk (w1.setCell ⟨w.heap.size, 0, none⟩ (.slice A m cap)) w.heap.size 24 #[.slice A m cap]) := hB1.out.set_ 0 _
      clear hb1 hB0 hb0
      go_wp2_with fail
      obtain ⟨w2, hw2⟩ : ∃ u, w1.setCell ⟨w.heap.size, 0, none⟩ (.slice A m cap) = u := ⟨_, rfl⟩
      rw [hw2] at q2 hB2
      rw [hw2]
      clear z0 z1 z2 hB1 q1 hw2
      refine (Get_any is A m cap ky _ (by omega) (h.to q2.out)).mono ?_
      rw [hE.out]
      rintro e w3 ⟨rfl, hb3⟩
      have q3 := hid_mk (after (w := w) hb3 q2.out).1
      have hB3 := hid_mk (hB2.out.keep hb3)
      have x0 : w3.cell? ⟨w.heap.size, 0, none⟩ = some (.slice A m cap) := hB3.out.cell 0
      have hgx := hB3.out.lt
      clear hb3 hB2 q2
      go_wp2_with fail
      refine (RRight_any is A m cap _ (by omega) (h.to q3.out)).mono ?_
      rw [hr.out]
      rintro e w4 ⟨rfl, hb4⟩
      have q4 := hid_mk (after (w := w) hb4 q3.out).1
      have hB4 := hid_mk (hB3.out.keep hb4)
      have x1 : w4.cell? ⟨w.heap.size, 0, none⟩ = some (.slice A m cap) := hB4.out.cell 0
      have hgy := hB4.out.lt
      clear hb4 hB3 q3 x0 hgx
      go_wp2_with fail
      refine (At_any is A m cap ky _ (by omega) (h.to q4.out)).mono ?_
      rw [hat.out]
      rintro e w5 ⟨rfl, hb5⟩
      have q5 := hid_mk (after (w := w) hb5 q4.out).1
      clear hb5
      go_wp2_with fail
      refine (alive_any _).mono ?_
      rintro e w9 ⟨rfl, hb9⟩
      have q9 := hid_mk (after (w := w) hb9 q5.out).1
      clear hb9
      go_wp2
      refine ends_ret hQ (results_tmp rfl _ _ _) rfl ?_
      exact ⟨ret_bool (by simp), q9.out⟩
    · obtain ⟨p, rfl⟩ := Int.eq_ofNat_of_zero_le (show 0 ≤ at_ by omega)
      have hpm : p < m := by omega
      obtain ⟨b, o, i, rfl, hbl, hik, c0, c1, c2⟩ := h.at_ hpm
      rw [if_neg hneg, Int.toNat_natCast, hik] at hE2
      have hbs := hbz.out i (List.mem_of_getElem? hik)
      obtain ⟨K, Bd, rf⟩ := i
      dsimp only at c0 c1 c2 hbs hE2
      obtain ⟨rb, hrb⟩ : ∃ b, rotB ⟨K, Bd, rf⟩ = b := ⟨_, rfl⟩
      rw [hrb] at hE2
      have hrot : ∀ W : World, Calls Try.prog 13 #[.agg #[.string K, .string Bd, .int .i64 rf]] W fun e w' => e = .returned (.bool rb) ∧ Below W.heap.size W w' := by
        intro W
        have h1 := Rot_any ⟨K, Bd, rf⟩ W hbs
        rw [hrb] at h1
        exact h1
      have p0 : (0 : Int) ≤ (p : Int) := by omega
      have p1 : (p : Int) < m := by omega
      replace c0 := hid_mk c0
      replace c1 := hid_mk c1
      replace c2 := hid_mk c2
      replace hik := hid_mk hik
      replace hrb := hid_mk hrb
      replace hat := hid_mk hat
      replace hbl := hid_mk hbl
      clear hal
      cases rb
      · have hE : Hid (getE is ky = (Bd, 0)) := by have h1 := hE2.out; simpa [Hid] using h1
        clear hE2
        refine calls_of_wpQ Try.func5 rfl ?_
        intro Q hQ
        simp only [Try.ntmps5, List.size_toArray, List.length_cons, List.length_nil, Nat.reduceAdd, Nat.reduceSub, Array.replicate_succ, Array.replicate_zero, List.push_toArray, List.append_toArray, List.nil_append, List.cons_append]
        go_wp2_with fail
        refine (few_any (some ⟨b, o, none⟩) n cap _ hc0 (by omega)).mono ?_
        rw [hm.out]
        rintro e w1 ⟨rfl, hb1⟩
        have q1 := hid_mk (after (w := w) hb1 hb0.out).1
        have hB1 := hid_mk (hB0.out.keep hb1)
        have z0 : w1.cell? ⟨w.heap.size, 0, none⟩ = some (.slice (some ⟨b, o, none⟩) n cap) := hB1.out.cell 0
        have z1 := hB1.out.frozen 0
        have z2 := hB1.out.lt
        have q2 : Hid (Below w.heap.size w (w1.setCell ⟨w.heap.size, 0, none⟩ (.slice (some ⟨b, o, none⟩) m cap))) := q1.out.setCell (p := ⟨w.heap.size, 0, none⟩) (by simp) _
        have hB2 : Hid (Blk (w1.setCell ⟨w.heap.size, 0, none⟩ (.slice (some ⟨b, o, none⟩) m cap)) w.heap.size 24 #[.slice (some ⟨b, o, none⟩) m cap]) := hB1.out.set_ 0 _
        clear hb1 hB0 hb0
        go_wp2_with fail
        obtain ⟨w2, hw2⟩ : ∃ u, w1.setCell ⟨w.heap.size, 0, none⟩ (.slice (some ⟨b, o, none⟩) m cap) = u := ⟨_, rfl⟩
        rw [hw2] at q2 hB2
        rw [hw2]
        clear z0 z1 z2 hB1 q1 hw2
        refine (Get_any is (some ⟨b, o, none⟩) m cap ky _ (by omega) (h.to q2.out)).mono ?_
        rw [hE.out]
        rintro e w3 ⟨rfl, hb3⟩
        have q3 := hid_mk (after (w := w) hb3 q2.out).1
        have hB3 := hid_mk (hB2.out.keep hb3)
        have x0 : w3.cell? ⟨w.heap.size, 0, none⟩ = some (.slice (some ⟨b, o, none⟩) m cap) := hB3.out.cell 0
        have hgx := hB3.out.lt
        clear hb3 hB2 q2
        go_wp2_with fail
        refine (RRight_any is (some ⟨b, o, none⟩) m cap _ (by omega) (h.to q3.out)).mono ?_
        rw [hr.out]
        rintro e w4 ⟨rfl, hb4⟩
        have q4 := hid_mk (after (w := w) hb4 q3.out).1
        have hB4 := hid_mk (hB3.out.keep hb4)
        have x1 : w4.cell? ⟨w.heap.size, 0, none⟩ = some (.slice (some ⟨b, o, none⟩) m cap) := hB4.out.cell 0
        have hgy := hB4.out.lt
        clear hb4 hB3 q3 x0 hgx
        go_wp2_with fail
        refine (At_any is (some ⟨b, o, none⟩) m cap ky _ (by omega) (h.to q4.out)).mono ?_
        rw [hat.out]
        rintro e w5 ⟨rfl, hb5⟩
        have q5 := hid_mk (after (w := w) hb5 q4.out).1
        have hB5 := hid_mk (hB4.out.keep hb5)
        have x2 : w5.cell? ⟨w.heap.size, 0, none⟩ = some (.slice (some ⟨b, o, none⟩) m cap) := hB5.out.cell 0
        have hgz := hB5.out.lt
        have d0 : w5.cell? ⟨b, o + p * 3, none⟩ = some (.string K) := ((bcell q5.out).1 _ _ hbl.out).trans c0.out
        have d1 : w5.cell? ⟨b, o + p * 3 + 1, none⟩ = some (.string Bd) := ((bcell q5.out).1 _ _ hbl.out).trans c1.out
        have d2 : w5.cell? ⟨b, o + p * 3 + 2, none⟩ = some (.int .i64 rf) := ((bcell q5.out).1 _ _ hbl.out).trans c2.out
        have hbl5 : b < w5.heap.size := Nat.lt_of_lt_of_le hbl.out q5.out.size
        clear hb5 x1 hgy hB4 q4
        go_wp2_with fail
        refine (hrot _).mono ?_
        rintro e w6 ⟨rfl, hb6⟩
        have q6 := hid_mk (after (w := w) hb6 q5.out).1
        clear hb6 d0 d1 d2
        go_wp2_with fail
        refine (alive_any _).mono ?_
        rintro e w9 ⟨rfl, hb9⟩
        have q9 := hid_mk (after (w := w) hb9 q6.out).1
        clear hb9
        go_wp2
        refine ends_ret hQ (results_tmp rfl _ _ _) rfl ?_
        exact ⟨ret_bool (by simp), q9.out⟩
      · have hE : Hid (getE is ky = (⟨#[]⟩, 61)) := by have h1 := hE2.out; simpa [Hid] using h1
        clear hE2
        refine calls_of_wpQ Try.func5 rfl ?_
        intro Q hQ
        simp only [Try.ntmps5, List.size_toArray, List.length_cons, List.length_nil, Nat.reduceAdd, Nat.reduceSub, Array.replicate_succ, Array.replicate_zero, List.push_toArray, List.append_toArray, List.nil_append, List.cons_append]
        go_wp2_with fail
        refine (few_any (some ⟨b, o, none⟩) n cap _ hc0 (by omega)).mono ?_
        rw [hm.out]
        rintro e w1 ⟨rfl, hb1⟩
        have q1 := hid_mk (after (w := w) hb1 hb0.out).1
        have hB1 := hid_mk (hB0.out.keep hb1)
        have z0 : w1.cell? ⟨w.heap.size, 0, none⟩ = some (.slice (some ⟨b, o, none⟩) n cap) := hB1.out.cell 0
        have z1 := hB1.out.frozen 0
        have z2 := hB1.out.lt
        have q2 : Hid (Below w.heap.size w (w1.setCell ⟨w.heap.size, 0, none⟩ (.slice (some ⟨b, o, none⟩) m cap))) := q1.out.setCell (p := ⟨w.heap.size, 0, none⟩) (by simp) _
        have hB2 : Hid (Blk (w1.setCell ⟨w.heap.size, 0, none⟩ (.slice (some ⟨b, o, none⟩) m cap)) w.heap.size 24 #[.slice (some ⟨b, o, none⟩) m cap]) := hB1.out.set_ 0 _
        clear hb1 hB0 hb0
        go_wp2_with fail
        obtain ⟨w2, hw2⟩ : ∃ u, w1.setCell ⟨w.heap.size, 0, none⟩ (.slice (some ⟨b, o, none⟩) m cap) = u := ⟨_, rfl⟩
        rw [hw2] at q2 hB2
        rw [hw2]
        clear z0 z1 z2 hB1 q1 hw2
        refine (Get_any is (some ⟨b, o, none⟩) m cap ky _ (by omega) (h.to q2.out)).mono ?_
        rw [hE.out]
        rintro e w3 ⟨rfl, hb3⟩
        have q3 := hid_mk (after (w := w) hb3 q2.out).1
        have hB3 := hid_mk (hB2.out.keep hb3)
        have x0 : w3.cell? ⟨w.heap.size, 0, none⟩ = some (.slice (some ⟨b, o, none⟩) m cap) := hB3.out.cell 0
        have hgx := hB3.out.lt
        clear hb3 hB2 q2
        go_wp2_with fail
        refine (RRight_any is (some ⟨b, o, none⟩) m cap _ (by omega) (h.to q3.out)).mono ?_
        rw [hr.out]
        rintro e w4 ⟨rfl, hb4⟩
        have q4 := hid_mk (after (w := w) hb4 q3.out).1
        have hB4 := hid_mk (hB3.out.keep hb4)
        have x1 : w4.cell? ⟨w.heap.size, 0, none⟩ = some (.slice (some ⟨b, o, none⟩) m cap) := hB4.out.cell 0
        have hgy := hB4.out.lt
        clear hb4 hB3 q3 x0 hgx
        go_wp2_with fail
        refine (At_any is (some ⟨b, o, none⟩) m cap ky _ (by omega) (h.to q4.out)).mono ?_
        rw [hat.out]
        rintro e w5 ⟨rfl, hb5⟩
        have q5 := hid_mk (after (w := w) hb5 q4.out).1
        have hB5 := hid_mk (hB4.out.keep hb5)
        have x2 : w5.cell? ⟨w.heap.size, 0, none⟩ = some (.slice (some ⟨b, o, none⟩) m cap) := hB5.out.cell 0
        have hgz := hB5.out.lt
        have d0 : w5.cell? ⟨b, o + p * 3, none⟩ = some (.string K) := ((bcell q5.out).1 _ _ hbl.out).trans c0.out
        have d1 : w5.cell? ⟨b, o + p * 3 + 1, none⟩ = some (.string Bd) := ((bcell q5.out).1 _ _ hbl.out).trans c1.out
        have d2 : w5.cell? ⟨b, o + p * 3 + 2, none⟩ = some (.int .i64 rf) := ((bcell q5.out).1 _ _ hbl.out).trans c2.out
        have hbl5 : b < w5.heap.size := Nat.lt_of_lt_of_le hbl.out q5.out.size
        clear hb5 x1 hgy hB4 q4
        go_wp2_with fail
        refine (hrot _).mono ?_
        rintro e w6 ⟨rfl, hb6⟩
        have q6 := hid_mk (after (w := w) hb6 q5.out).1
        clear hb6 d0 d1 d2
        go_wp2_with fail
        refine (alive_any _).mono ?_
        rintro e w9 ⟨rfl, hb9⟩
        have q9 := hid_mk (after (w := w) hb9 q6.out).1
        clear hb9
        go_wp2
        refine ends_ret hQ (results_tmp rfl _ _ _) rfl ?_
        exact ⟨ret_bool (by simp), q9.out⟩
theorem LawGets_walk {w : World} (a0 : Option Addr) (len0 cap0 : Nat) (is0 : List Itm) (i0 : Itms w w.heap.size a0 len0 is0) (lc0 : len0 ≤ cap0) (hs0 : cap0 * 40 ≤ 140737488351232) (s1 : ByteArray) (_hs1 : s1.size ≤ 140737488351232) :
    Calls Try.prog 5 #[.agg #[.slice a0 len0 cap0], .string s1] w fun e w' => e = .returned (.bool true) ∧ Below w.heap.size w w' := LawGets_any a0 len0 cap0 is0 s1 w i0 lc0 hs0
end Go.Proofs.Ytngaeencnklbdaa
