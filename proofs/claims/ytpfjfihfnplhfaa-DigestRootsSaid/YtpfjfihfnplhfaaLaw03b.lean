/-
  WHAT IS PROVED HERE: the walks of the laws DigestBack and DigestApart: they return true and write nothing that was there. No condition.
-/
import Derived.Test.YtpfjfihfnplhfaaDig2
import Derived.Test.YtpfjfihfnplhfaaSha5
namespace Go.Proofs.Ytpfjfihfnplhfaa
open Go.RowKit

theorem dg_isD (n : Nat) (h : n < 16) : isD (dg n) = true := by
  have : ∀ m : Fin 16, isD (dg m.val) = true := by decide +kernel
  exact this ⟨n, h⟩
theorem dv_dg (n : Nat) (h : n < 16) : dv (dg n) = n := by
  have : ∀ m : Fin 16, dv (dg m.val) = m.val := by decide +kernel
  exact this ⟨n, h⟩
theorem hexL_isD (l : List UInt8) : (hexL l).all isD = true := by
  induction l with
  | nil => rfl
  | cons c l ih =>
    have hc := c.toNat_lt
    unfold hexL at *
    rw [List.flatMap_cons, List.all_append, ih, Bool.and_true, List.all_cons, List.all_cons, dg_isD _ (by omega), dg_isD _ (by omega)]
    rfl
theorem pairs_hexL (l : List UInt8) : pairs (hexL l) = l := by
  induction l with
  | nil => rfl
  | cons c l ih =>
    have hc := c.toNat_lt
    unfold hexL at *
    rw [List.flatMap_cons]
    show pairs (dg (c.toNat / 16) :: dg (c.toNat % 16) :: List.flatMap _ l) = _
    rw [pairs, ih, dv_dg _ (by omega), dv_dg _ (by omega), show 16 * (c.toNat / 16) + c.toNat % 16 = c.toNat from by omega]
    simp
theorem parse_back {l : List UInt8} (h : l.length = 32) : parseV (hexL l) = .tuple #[.string ⟨l.toArray⟩, .int .i64 0] := by
  unfold parseV
  rw [if_pos ⟨by rw [hexL_len, h], hexL_isD l⟩, pairs_hexL]
theorem short_size (s : ByteArray) (n : Nat) : (if n < s.size then s.extract 0 n else s).size ≤ n := by
  split
  · rw [ByteArray.size_extract]; omega
  · omega
set_option maxHeartbeats 800000 in
theorem LawBack_any (s : ByteArray) (w : World) : Calls Try.prog 8 #[.string s] w fun e w' => e = .returned (.bool true) ∧ Below w.heap.size w w' := by
  have hts := short_size s 2000
  obtain ⟨t, ht⟩ : ∃ t, (if 2000 < s.size then s.extract 0 2000 else s) = t := ⟨_, rfl⟩
  rw [ht] at hts
  replace ht := hid_mk ht
  have hp := hid_mk (parse_back (digL_len t.data.toList))
  have hl := hid_mk (digL_len t.data.toList)
  obtain ⟨d, hd⟩ : ∃ d, digL t.data.toList = d := ⟨_, rfl⟩
  rw [hd] at hp hl
  replace hd := hid_mk hd
  have h32 : ((d.length : Int) == 32) = true := by rw [hl.out]; rfl
  have hs32 : (⟨d.toArray⟩ : ByteArray).size ≤ 32 := by
    have : (⟨d.toArray⟩ : ByteArray).size = d.length := rfl
    rw [this, hl.out]; exact Nat.le_refl _
  refine calls_of_wpQ Try.func8 rfl ?_
  intro Q hQ
  simp only [Try.ntmps8, List.size_toArray, List.length_cons, List.length_nil, Nat.reduceAdd, Nat.reduceSub, Array.replicate_succ, Array.replicate_zero, List.push_toArray, List.append_toArray, List.nil_append, List.cons_append]
  go_wp2_with fail
  refine (short_any s 2000 _ (by omega)).mono ?_
  rw [ht.out]
  rintro e w1 ⟨rfl, rfl⟩
  go_wp2_with fail
  refine (Of_any t _ (by omega)).mono ?_
  rw [hd.out]
  rintro e w1 ⟨rfl, hb1⟩
  go_wp2_with fail
  refine (Hex_any ⟨d.toArray⟩ _ (by omega)).mono ?_
  rintro e w2 ⟨rfl, hb2⟩
  have q2 := (after (w := w) hb2 hb1).1
  go_wp2_with fail
  refine (Parse_any _ _).mono ?_
  rw [show (⟨(hexL (⟨d.toArray⟩ : ByteArray).data.toList).toArray⟩ : ByteArray).data.toList = hexL d from rfl, hp.out]
  rintro e w3 ⟨rfl, hb3⟩
  have q3 := (after (w := w) hb3 q2).1
  go_wp2
  refine ends_ret hQ (results_tmp rfl _ _ _) rfl ?_
  exact ⟨ret_bool (by simp), q3⟩
theorem LawBack_walk (s0 : ByteArray) {w : World} (_hs0 : s0.size ≤ 140737488351232) :
    Calls Try.prog 8 #[.string s0] w fun e w' => e = .returned (.bool true) ∧ Below w.heap.size w w' := LawBack_any s0 w
theorem cat_list (a b : ByteArray) : (a ++ b).data.toList = a.data.toList ++ b.data.toList := by simp
set_option maxHeartbeats 1600000 in
theorem LawApart_any (a b : ByteArray) (w : World) : Calls Try.prog 7 #[.string a, .string b] w fun e w' => e = .returned (.bool true) ∧ Below w.heap.size w w' := by
  have hta := short_size a 500
  have htb := short_size b 500
  obtain ⟨s, hs⟩ : ∃ t, (if 500 < a.size then a.extract 0 500 else a) = t := ⟨_, rfl⟩
  obtain ⟨t, ht⟩ : ∃ t, (if 500 < b.size then b.extract 0 500 else b) = t := ⟨_, rfl⟩
  rw [hs] at hta
  rw [ht] at htb
  replace hs := hid_mk hs
  replace ht := hid_mk ht
  have hls : s.data.toList.length ≤ 500 := hta
  have hlt : t.data.toList.length ≤ 500 := htb
  have hl1 : (s.data.toList ++ t.data.toList).length ≤ 1000 := by rw [List.length_append]; omega
  have hl2 : (t.data.toList ++ s.data.toList).length ≤ 1000 := by rw [List.length_append]; omega
  have hc1 := hid_mk (cat_list s t)
  have hc2 := hid_mk (cat_list t s)
  have hsz1 : (s ++ t).size ≤ 1000 := by rw [ByteArray.size_append]; omega
  have hsz2 : (t ++ s).size ≤ 1000 := by rw [ByteArray.size_append]; omega
  have hd1 := digL_len (s.data.toList ++ t.data.toList)
  obtain ⟨d1, hd1e⟩ : ∃ d, digL (s.data.toList ++ t.data.toList) = d := ⟨_, rfl⟩
  obtain ⟨d2, hd2e⟩ : ∃ d, digL (t.data.toList ++ s.data.toList) = d := ⟨_, rfl⟩
  rw [hd1e] at hd1
  have h32 : ((d1.length : Int) == 32) = true := by rw [hd1]; rfl
  replace hd1e := hid_mk hd1e
  replace hd2e := hid_mk hd2e
  replace hd1 := hid_mk hd1
  refine calls_of_wpQ Try.func7 rfl ?_
  intro Q hQ
  simp only [Try.ntmps7, List.size_toArray, List.length_cons, List.length_nil, Nat.reduceAdd, Nat.reduceSub, Array.replicate_succ, Array.replicate_zero, List.push_toArray, List.append_toArray, List.nil_append, List.cons_append]
  go_wp2_with fail
  refine (short_any a 500 _ (by omega)).mono ?_
  rw [hs.out]
  rintro e w1 ⟨rfl, rfl⟩
  go_wp2_with fail
  refine (short_any b 500 _ (by omega)).mono ?_
  rw [ht.out]
  rintro e w1 ⟨rfl, rfl⟩
  go_wp2_with fail
  refine (New_any _ (B := w.heap.size) (Nat.le_refl _)).mono ?_
  rintro e w1 ⟨x, rfl, hx, hX, hb1⟩
  have hs1 := hb1.size
  have hxl := hX.size
  go_wp2_with fail
  refine (New_any _ (B := w.heap.size) hs1).mono ?_
  rintro e w2 ⟨y, rfl, hy, hY, hb2⟩
  have hs2 := hb2.size
  have q2 := hid_mk (after (w := w) hb2 hb1).1
  replace hX := hX.keep hb2
  have hxy : x ≠ y := by omega
  replace hxy := hid_mk hxy
  clear hb1 hb2
  go_wp2_with fail
  refine (Add_any w.heap.size x _ [] s _ hX (by omega) (by simp) (by omega)).mono ?_
  rintro e w3 ⟨v3, rfl, hX3, hT3, hf3⟩
  rw [List.nil_append] at hX3
  replace hY := hY.other hX (fun e => hxy.out e.symm) (fun k hk => by simp [Value.ownBlock] at hk) hT3
  have hs3 := hT3.size
  replace q2 := hid_mk (hT3.below q2.out (by omega) (by omega) (fun k hk => by simp [Value.ownBlock] at hk))
  clear hT3 hX
  go_wp2_with fail
  refine (Add_any w.heap.size y _ [] t _ hY (by omega) (by simp) (by omega)).mono ?_
  rintro e w4 ⟨v4, rfl, hY4, hT4, hf4⟩
  rw [List.nil_append] at hY4
  have hX4 := hX3.other hY hxy.out (fun k _ => by simp [Value.ownBlock]) hT4
  have hs4 := hT4.size
  replace q2 := hid_mk (hT4.below q2.out (by omega) (by omega) (fun k hk => by simp [Value.ownBlock] at hk))
  have hv34 : Hid (∀ k, v4.ownBlock = some k → v3.ownBlock ≠ some k) := by
    intro k hk e
    have h1 := hf4 k hk
    have h2 := World.ownsRow.lt hX3.2.2 k e
    omega
  clear hT4 hY hX3
  go_wp2_with fail
  refine (Add_any w.heap.size x v3 s.data.toList t _ hX4 (by omega) (by omega) (by omega)).mono ?_
  rintro e w5 ⟨v5, rfl, hX5, hT5, hf5⟩
  have hY5 := hY4.other hX4 (fun e => hxy.out e.symm) hv34.out hT5
  have hs5 := hT5.size
  replace q2 := hid_mk (hT5.below q2.out (by omega) (by omega) (fun k hk => (World.ownsRow.lt hX4.2.2 k hk).1))
  have hv45 : Hid (∀ k, v5.ownBlock = some k → v4.ownBlock ≠ some k) := by
    intro k hk e
    have h1 := hf5 k hk
    have h2 := World.ownsRow.lt hY4.2.2 k e
    omega
  clear hT5 hY4 hX4
  go_wp2_with fail
  refine (Add_any w.heap.size y v4 t.data.toList s _ hY5 (by omega) (by omega) (by omega)).mono ?_
  rintro e w6 ⟨v6, rfl, hY6, hT6, hf6⟩
  have hX6 := hX5.other hY5 hxy.out hv45.out hT6
  have hs6 := hT6.size
  replace q2 := hid_mk (hT6.below q2.out (by omega) (by omega) (fun k hk => (World.ownsRow.lt hY5.2.2 k hk).1))
  clear hT6 hY5 hX5 hv45 hv34 hf3 hf4 hf5 hf6
  go_wp2_with fail
  refine (Add_nil s _).mono ?_
  rintro e w7 ⟨rfl, rfl⟩
  go_wp2_with fail
  refine (Sum_any w.heap.size x v5 _ _ hX6 (by omega)).mono ?_
  rw [hd1e.out]
  rintro e w7 ⟨rfl, hb7⟩
  have q7 := hid_mk (after (w := w) hb7 q2.out).1
  replace hX6 := hX6.keep hb7
  replace hY6 := hY6.keep hb7
  clear hb7
  go_wp2_with fail
  refine (Of_any (s ++ t) _ (by omega)).mono ?_
  rw [hc1.out, hd1e.out]
  rintro e w8 ⟨rfl, hb8⟩
  have q8 := hid_mk (after (w := w) hb8 q7.out).1
  replace hX6 := hX6.keep hb8
  replace hY6 := hY6.keep hb8
  clear hb8
  go_wp2_with fail
  refine (Sum_any w.heap.size y v6 _ _ hY6 (by omega)).mono ?_
  rw [hd2e.out]
  rintro e w9 ⟨rfl, hb9⟩
  have q9 := hid_mk (after (w := w) hb9 q8.out).1
  replace hX6 := hX6.keep hb9
  clear hb9
  go_wp2_with fail
  refine (Of_any (t ++ s) _ (by omega)).mono ?_
  rw [hc2.out, hd2e.out]
  rintro e w10 ⟨rfl, hb10⟩
  have q10 := hid_mk (after (w := w) hb10 q9.out).1
  replace hX6 := hX6.keep hb10
  clear hb10
  go_wp2_with fail
  refine (Sum_nil _).mono ?_
  rintro e w11 ⟨rfl, rfl⟩
  go_wp2_with fail
  refine (Sum_any w.heap.size x v5 _ _ hX6 (by omega)).mono ?_
  rw [hd1e.out]
  rintro e w12 ⟨rfl, hb12⟩
  have q12 := hid_mk (after (w := w) hb12 q10.out).1
  clear hb12
  go_wp2
  refine ends_ret hQ (results_tmp rfl _ _ _) rfl ?_
  exact ⟨ret_bool (by simp), q12.out⟩
theorem LawApart_walk (s0 : ByteArray) (_hs0 : s0.size ≤ 140737488351232) (s1 : ByteArray) {w : World} (_hs1 : s1.size ≤ 140737488351232) :
    Calls Try.prog 7 #[.string s0, .string s1] w fun e w' => e = .returned (.bool true) ∧ Below w.heap.size w w' := LawApart_any s0 s1 w
end Go.Proofs.Ytpfjfihfnplhfaa
