/-
  WHAT IS PROVED HERE: the walk of the law StorePuts: it returns true and writes nothing that was there. No condition.
-/
import Derived.Test.YtngaeencnklbdaaStoB
namespace Go.Proofs.Ytngaeencnklbdaa
open Go.RowKit

theorem own_top_ {w : World} {B n c : Nat} {A : Option Addr} {is : List Itm} (h : OwnI w B (.slice A n c) n is) : Itms w w.heap.size A n is := h.itms
theorem putE_len (is : List Itm) (bd : ByteArray) : (putE is bd).1.length ≤ is.length + 1 := by
  unfold putE
  split
  · simp
  · split
    · simp
    · split
      · split
        · simp
        · dsimp only; rw [insF_len]; exact Nat.le_refl _
      · split
        · simp
        · split
          · simp
          · split
            · simp
            · dsimp only; rw [withI_len]; omega
theorem few_len (is : List Itm) : (fewI is).length ≤ is.length := by
  unfold fewI
  split
  · rw [List.length_take]; omega
  · exact Nat.le_refl _
set_option maxRecDepth 100000 in
set_option maxHeartbeats 6400000 in
theorem LawPuts_any (A : Option Addr) (n cap : Nat) (is0 : List Itm) (bd : ByteArray) (w : World) (h0 : Itms w w.heap.size A n is0) (hc0 : n ≤ cap) (hcap : cap * 40 ≤ 140737488351232) :
    Calls Try.prog 3 #[.agg #[.slice A n cap], .string bd] w fun e w' => e = .returned (.bool true) ∧ Below w.heap.size w w' := by
  have h := fewI_itms h0
  have hcn := fewN_le n
  obtain ⟨m, hm⟩ : ∃ m, fewN n = m := ⟨_, rfl⟩
  obtain ⟨is, his⟩ : ∃ l, fewI is0 = l := ⟨_, rfl⟩
  rw [hm] at h hcn
  rw [his] at h
  have hmc : m ≤ cap := by omega
  have hb0 : Hid (Below w.heap.size w (w.alloc (.cells #[.slice A n cap] 24))) := (Below.refl _ w).alloc (Nat.le_refl _) _
  have hB0 : Hid (Blk (w.alloc (.cells #[.slice A n cap] 24)) w.heap.size 24 #[.slice A n cap]) := Blk.new w 24 #[.slice A n cap]
  have hlen := h.len
  have hpl := putE_len is bd
  obtain ⟨⟨LA, kk, er⟩, hE⟩ : ∃ E, putE is bd = E := ⟨_, rfl⟩
  rw [hE, hlen] at hpl
  obtain ⟨na, hna⟩ : ∃ n, LA.length = n := ⟨_, rfl⟩
  dsimp only at hpl
  rw [hna] at hpl
  have hnab : na ≤ 3518437208800 := by omega
  replace hlen := hid_mk hlen
  replace hm := hid_mk hm
  replace his := hid_mk his
  replace hE := hid_mk hE
  replace hna := hid_mk hna
  clear h0
  refine calls_of_wpQ Try.func3 rfl ?_
  intro Q hQ
  simp only [Try.ntmps3, List.size_toArray, List.length_cons, List.length_nil, Nat.reduceAdd, Nat.reduceSub, Array.replicate_succ, Array.replicate_zero, List.push_toArray, List.append_toArray, List.nil_append, List.cons_append]
  go_wp2_with fail
  refine (few_any A n cap _ hc0 (by omega)).mono ?_
  rw [hm.out]
  rintro e w1 ⟨rfl, hb1⟩
  have q1 := hid_mk (after (w := w) hb1 hb0.out).1
  have hB1 := hid_mk (hB0.out.keep hb1)
  have z0 : w1.cell? ⟨w.heap.size, 0, none⟩ = some (.slice A n cap) := hB1.out.cell 0
  have z1 := hB1.out.frozen 0
  have z2 := hB1.out.lt
  have q2 : Hid (Below w.heap.size w (w1.setCell ⟨w.heap.size, 0, none⟩ (.slice A m cap))) := q1.out.setCell (p := ⟨w.heap.size, 0, none⟩) (by simp) _
  have hX2 : Hid (Blk (w1.setCell ⟨w.heap.size, 0, none⟩ (.slice A m cap)) w.heap.size 24 #[.slice A m cap]) := hB1.out.set_ 0 _
  clear hb1 hB0 hb0
  go_wp2_with fail
  obtain ⟨w2, hw2⟩ : ∃ u, w1.setCell ⟨w.heap.size, 0, none⟩ (.slice A m cap) = u := ⟨_, rfl⟩
  rw [hw2] at q2 hX2
  rw [hw2]
  clear z0 z1 z2 hB1 q1 hw2
  refine (Put_any is A m cap bd _ (by omega) (h.to q2.out)).mono ?_
  rw [hE.out]
  rintro e w3 ⟨v3, rfl, own3, hb3⟩
  obtain ⟨A3, c3, rfl, _, _⟩ := own_slice own3
  dsimp only at own3
  rw [hna.out] at own3
  dsimp only
  rw [hna.out]
  have q3 := hid_mk ((after (w := w) hb3 q2.out).1.alloc (Nat.le_trans q2.out.size hb3.size) (.cells #[.slice A3 na c3] 24))
  have hX3 := hid_mk ((hX2.out.keep hb3).alloc (.cells #[.slice A3 na c3] 24))
  have hA3 : Hid (Blk (w3.alloc (.cells #[.slice A3 na c3] 24)) w3.heap.size 24 #[.slice A3 na c3]) := Blk.new w3 24 #[.slice A3 na c3]
  have IA3 : Hid (Itms (w3.alloc (.cells #[.slice A3 na c3] 24)) w3.heap.size A3 na LA) := (own_top_ own3).to (by go_grown)
  have x0 : (w3.alloc (.cells #[.slice A3 na c3] 24)).cell? ⟨w.heap.size, 0, none⟩ = some (.slice A m cap) := hX3.out.cell 0
  have xl := hX3.out.lt
  clear hb3 hX2 q2 own3
  go_wp2_with fail
  refine (RPut_any is A m cap bd _ (by omega) (h.to q3.out)).mono ?_
  rw [hE.out]
  rintro e w4 ⟨v4, rfl, own4, hb4⟩
  obtain ⟨A4, c4, rfl, _, _⟩ := own_slice own4
  dsimp only at own4
  rw [hna.out] at own4
  dsimp only
  rw [hna.out]
  have q4 := hid_mk ((after (w := w) hb4 q3.out).1.alloc (Nat.le_trans q3.out.size hb4.size) (.cells #[.slice A4 na c4] 24))
  have hA4 := hid_mk ((hA3.out.keep hb4).alloc (.cells #[.slice A4 na c4] 24))
  have hB4 : Hid (Blk (w4.alloc (.cells #[.slice A4 na c4] 24)) w4.heap.size 24 #[.slice A4 na c4]) := Blk.new w4 24 #[.slice A4 na c4]
  have IA4 : Hid (Itms (w4.alloc (.cells #[.slice A4 na c4] 24)) w4.heap.size A3 na LA) := Itms.to (Itms.top (IA3.out.to hb4)) (by go_grown)
  have IB4 : Hid (Itms (w4.alloc (.cells #[.slice A4 na c4] 24)) w4.heap.size A4 na LA) := (own_top_ own4).to (by go_grown)
  clear hb4 hX3 hA3 q3 own4 IA3 x0 xl
  go_wp2_with fail
  refine (alive_any _).mono ?_
  rintro e w5 ⟨rfl, hb5⟩
  have q5 := hid_mk (after (w := w) hb5 q4.out).1
  have hA5 := hid_mk (hA4.out.keep hb5)
  have hB5 := hid_mk (hB4.out.keep hb5)
  have IA5 := hid_mk (Itms.top (IA4.out.to hb5))
  have IB5 := hid_mk (Itms.top (IB4.out.to hb5))
  have a0 : w5.cell? ⟨w3.heap.size, 0, none⟩ = some (.slice A3 na c3) := hA5.out.cell 0
  have al := hA5.out.lt
  have b0 : w5.cell? ⟨w4.heap.size, 0, none⟩ = some (.slice A4 na c4) := hB5.out.cell 0
  have bl := hB5.out.lt
  clear hb5 hA4 hB4 IA4 IB4 q4
  have hkk : (kk.toList == kk.toList) = true := by simp
  go_wp2_with fail
  refine (SLike_same A3 na c3 A4 c4 LA _ hnab IA5.out IB5.out).mono ?_
  rintro e w6 ⟨rfl, hb6⟩
  have q6 := hid_mk (after (w := w) hb6 q5.out).1
  clear hb6 a0 al b0 bl
  go_wp2
  refine ends_ret hQ (results_tmp rfl _ _ _) rfl ?_
  exact ⟨ret_bool (by simp), q6.out⟩
theorem LawPuts_walk {w : World} (a0 : Option Addr) (len0 cap0 : Nat) (is0 : List Itm) (i0 : Itms w w.heap.size a0 len0 is0) (lc0 : len0 ≤ cap0) (hs0 : cap0 * 40 ≤ 140737488351232) (s1 : ByteArray) (_hs1 : s1.size ≤ 140737488351232) :
    Calls Try.prog 3 #[.agg #[.slice a0 len0 cap0], .string s1] w fun e w' => e = .returned (.bool true) ∧ Below w.heap.size w w' := LawPuts_any a0 len0 cap0 is0 s1 w i0 lc0 hs0
end Go.Proofs.Ytngaeencnklbdaa
