/-
  WHAT IS PROVED HERE: the walk of the law DigestHex: it returns true and writes nothing that was there. No condition.
-/
import Derived.Test.YtpfjfihfnplhfaaDig2
namespace Go.Proofs.Ytpfjfihfnplhfaa
open Go.RowKit

theorem pairs_len : ∀ {k : Nat} {l : List UInt8}, l.length = 2 * k → (pairs l).length = k
  | 0, [], _ => rfl
  | 0, _ :: _, h => by simp at h
  | k + 1, [], h => by simp at h
  | k + 1, [_], h => by simp at h; omega
  | k + 1, a :: b :: r, h => by
    have ih := pairs_len (k := k) (l := r) (by simp at h; omega)
    simp [pairs, ih]
theorem dg_dv : ∀ c : UInt8, isD c = true → dg (dv c) = c := by
  have : ∀ m : Fin 256, isD (UInt8.ofNat m.val) = true → dg (dv (UInt8.ofNat m.val)) = UInt8.ofNat m.val := by decide +kernel
  intro c h
  have h2 := this ⟨c.toNat, c.toNat_lt⟩
  simp only [UInt8.ofNat_toNat] at h2
  exact h2 h
theorem hexL_pairs : ∀ {k : Nat} {l : List UInt8}, l.length = 2 * k → l.all isD = true → hexL (pairs l) = l
  | 0, [], _, _ => rfl
  | 0, _ :: _, h, _ => by simp at h
  | k + 1, [], h, _ => by simp at h
  | k + 1, [_], h, _ => by simp at h; omega
  | k + 1, a :: b :: r, h, ha => by
    simp only [List.all_cons, Bool.and_eq_true] at ha
    have ih := hexL_pairs (k := k) (l := r) (by simp at h; omega) ha.2.2
    have h1 := dv_lt ha.1
    have h2 := dv_lt ha.2.1
    have e : ((16 * dv a + dv b).toUInt8).toNat = 16 * dv a + dv b := by simp [UInt8.toNat_ofNat']; omega
    unfold pairs hexL
    rw [List.flatMap_cons, e, show (16 * dv a + dv b) / 16 = dv a from by omega, show (16 * dv a + dv b) % 16 = dv b from by omega, dg_dv a ha.1, dg_dv b ha.2.1]
    unfold hexL at ih
    rw [ih]; rfl
set_option maxHeartbeats 800000 in
theorem LawHex_any (s : ByteArray) (w : World) : Calls Try.prog 3 #[.string s] w fun e w' => e = .returned (.bool true) ∧ Below w.heap.size w w' := by
  obtain ⟨t, ht⟩ : ∃ t, (if 5000 < s.size then s.extract 0 5000 else s) = t := ⟨_, rfl⟩
  have hts : t.size ≤ 5000 := by
    rw [← ht]; split
    · rw [ByteArray.size_extract]; omega
    · omega
  replace ht := hid_mk ht
  by_cases hv : t.data.toList.length = 64 ∧ t.data.toList.all isD = true
  · have hp : Hid (parseV t.data.toList = .tuple #[.string ⟨(pairs t.data.toList).toArray⟩, .int .i64 0]) := by unfold Hid parseV; rw [if_pos hv]
    have hi : Hid ((t.data.toList.all isD && decide (t.size = 64)) = true) := by
      have : t.size = 64 := by simpa using hv.1
      rw [Hid, hv.2, decide_eq_true this]; rfl
    have hsz : Hid ((⟨(pairs t.data.toList).toArray⟩ : ByteArray).size = 32) := by
      have := pairs_len (k := 32) hv.1
      rw [Hid]; exact this
    have hx : Hid ((⟨(hexL (⟨(pairs t.data.toList).toArray⟩ : ByteArray).data.toList).toArray⟩ : ByteArray) = t) := by
      have := hexL_pairs (k := 32) hv.1 hv.2
      rw [Hid, show (⟨(pairs t.data.toList).toArray⟩ : ByteArray).data.toList = pairs t.data.toList from rfl, this]
    obtain ⟨d, hd⟩ : ∃ d : ByteArray, (⟨(pairs t.data.toList).toArray⟩ : ByteArray) = d := ⟨_, rfl⟩
    rw [hd] at hp hsz hx
    have hds : d.size ≤ 32 ∧ 32 ≤ d.size := by have := hsz.out; omega
    obtain ⟨hds1, hds2⟩ := hds
    clear hv hd
    refine calls_of_wpQ Try.func3 rfl ?_
    intro Q hQ
    simp only [Try.ntmps3, List.size_toArray, List.length_cons, List.length_nil, Nat.reduceAdd, Nat.reduceSub, Array.replicate_succ, Array.replicate_zero, List.push_toArray, List.append_toArray, List.nil_append, List.cons_append]
    go_wp2_with fail
    refine (short_any s 5000 _ (by omega)).mono ?_
    rw [ht.out]
    rintro e w1 ⟨rfl, rfl⟩
    go_wp2_with fail
    refine (Hex_any t _ (by omega)).mono ?_
    rintro e w1 ⟨rfl, hb1⟩
    go_wp2_with fail
    refine (refHex_any t _ (by omega)).mono ?_
    rintro e w2 ⟨rfl, hb2⟩
    have q2 := (after (w := w) hb2 hb1).1
    go_wp2_with fail
    refine (Parse_any t _).mono ?_
    rw [hp.out]
    rintro e w3 ⟨rfl, hb3⟩
    have q3 := (after (w := w) hb3 q2).1
    go_wp2_with fail
    refine (Is_any t _ (by omega)).mono ?_
    rw [hi.out]
    rintro e w4 ⟨rfl, rfl⟩
    have hdi : ((d.size : Int) == 32) = true := by simp; omega
    go_wp2_with fail
    refine (refHex_any d _ (by omega)).mono ?_
    rw [hx.out]
    rintro e w5 ⟨rfl, hb5⟩
    have q5 := (after (w := w) hb5 q3).1
    go_wp2
    refine ends_ret hQ (results_tmp rfl _ _ _) rfl ?_
    exact ⟨ret_bool (by simp), q5⟩
  · have hp : Hid (parseV t.data.toList = .tuple #[.string ⟨#[]⟩, .int .i64 30]) := by unfold Hid parseV; rw [if_neg hv]
    have hi : Hid ((t.data.toList.all isD && decide (t.size = 64)) = false) := by
      rw [Hid, Bool.and_eq_false_iff]
      rcases Classical.em (t.data.toList.all isD = true) with h | h
      · right
        exact decide_eq_false fun e => hv ⟨by simpa using e, h⟩
      · left; simpa using h
    clear hv
    refine calls_of_wpQ Try.func3 rfl ?_
    intro Q hQ
    simp only [Try.ntmps3, List.size_toArray, List.length_cons, List.length_nil, Nat.reduceAdd, Nat.reduceSub, Array.replicate_succ, Array.replicate_zero, List.push_toArray, List.append_toArray, List.nil_append, List.cons_append]
    go_wp2_with fail
    refine (short_any s 5000 _ (by omega)).mono ?_
    rw [ht.out]
    rintro e w1 ⟨rfl, rfl⟩
    go_wp2_with fail
    refine (Hex_any t _ (by omega)).mono ?_
    rintro e w1 ⟨rfl, hb1⟩
    go_wp2_with fail
    refine (refHex_any t _ (by omega)).mono ?_
    rintro e w2 ⟨rfl, hb2⟩
    have q2 := (after (w := w) hb2 hb1).1
    go_wp2_with fail
    refine (Parse_any t _).mono ?_
    rw [hp.out]
    rintro e w3 ⟨rfl, hb3⟩
    have q3 := (after (w := w) hb3 q2).1
    go_wp2_with fail
    refine (Is_any t _ (by omega)).mono ?_
    rw [hi.out]
    rintro e w4 ⟨rfl, rfl⟩
    go_wp2
    refine ends_ret hQ (results_tmp rfl _ _ _) rfl ?_
    exact ⟨ret_bool (by simp), q3⟩
theorem LawHex_walk (s0 : ByteArray) {w : World} (_hs0 : s0.size ≤ 140737488351232) :
    Calls Try.prog 3 #[.string s0] w fun e w' => e = .returned (.bool true) ∧ Below w.heap.size w w' := LawHex_any s0 w
end Go.Proofs.Ytpfjfihfnplhfaa
