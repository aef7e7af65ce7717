/-
  WHAT IS PROVED HERE: the walk of the law DigestParts: it returns true and writes nothing that was there. No condition.
-/
import Derived.Test.YtpfjfihfnplhfaaLaw03b
import Derived.Test.YtpfjfihfnplhfaaOpenS
namespace Go.Proofs.Ytpfjfihfnplhfaa
open Go.RowKit

def cut500 (s : ByteArray) : ByteArray := if 500 < s.size then s.extract 0 500 else s
def allOf (ss : List ByteArray) : ByteArray := ss.foldl (fun a s => a ++ cut500 s) ByteArray.empty
theorem allOf_snoc (ss : List ByteArray) (s : ByteArray) : allOf (ss ++ [s]) = allOf ss ++ cut500 s := by unfold allOf; rw [List.foldl_append]; rfl
theorem fold_size : ∀ (ss : List ByteArray) (a : ByteArray), (ss.foldl (fun a s => a ++ cut500 s) a).size ≤ a.size + 500 * ss.length
  | [], _ => Nat.le_refl _
  | s :: ss, a => by
    have ih := fold_size ss (a ++ cut500 s)
    have hs := short_size s 500
    rw [ByteArray.size_append] at ih
    unfold cut500 at *
    simp only [List.foldl_cons, List.length_cons]
    omega
theorem allOf_size (ss : List ByteArray) : (allOf ss).size ≤ 500 * ss.length := by
  have h := fold_size ss ByteArray.empty
  have h0 : ByteArray.empty.size = 0 := rfl
  unfold allOf
  omega
set_option maxHeartbeats 1600000 in
theorem LawParts_any (A : Option Addr) (n cap : Nat) (ss : List ByteArray) (w : World) (h : Strs w w.heap.size A n ss) (_hc : n ≤ cap) (_hcap : cap * 16 ≤ 140737488351232) :
    Calls Try.prog 6 #[.slice A n cap] w fun e w' => e = .returned (.bool true) ∧ Below w.heap.size w w' := by
  refine calls_of_wpQ Try.func6 rfl ?_
  intro Q hQ
  simp only [Try.ntmps6, List.size_toArray, List.length_cons, List.length_nil, Nat.reduceAdd, Nat.reduceSub, Array.replicate_succ, Array.replicate_zero, List.push_toArray, List.append_toArray, List.nil_append, List.cons_append]
  go_wp2_with fail
  refine (New_any _ (B := w.heap.size) (Nat.le_refl _)).mono ?_
  rintro e w1 ⟨g, rfl, hg1, hH, hb1⟩
  have hs1 := hb1.size
  replace hb1 := hid_mk hb1
  have hH0 : HashIs w1 w.heap.size g (.slice none 0 0) (allOf (ss.take 0)).data.toList := hH
  clear hH
  go_wp2
  go_loopw [4, 12] (fun a i wr => ∃ (k : Nat) (v : Value), k ≤ n ∧ k ≤ 20 ∧ i = .int .i64 k ∧ a = .string (allOf (ss.take k)) ∧ Hid (Below w.heap.size w wr) ∧ HashIs wr w.heap.size g v (allOf (ss.take k)).data.toList) (fun _ i _ => n - (intOf i).toNat)
  case atStart => exact ⟨0, _, by omega, by omega, rfl, rfl, hb1, hH0⟩
  case round =>
    clear hH0 hb1 hs1 hg1
    obtain ⟨k, v, hk, hk20, rfl, rfl, hb, hH⟩ := hrel
    have hbs := hb.out.size
    have hal := allOf_size (ss.take k)
    have hlen := h.len
    rw [List.length_take] at hal
    have hal2 : (allOf (ss.take k)).size ≤ 10000 := by omega
    have hall : (allOf (ss.take k)).data.toList.length ≤ 10000 := hal2
    have hgB := hH.1
    clear hal hlen
    by_cases hlt : k < n ∧ k < 20
    · obtain ⟨hlt, hlt20⟩ := hlt
      obtain ⟨b, o, s, rfl, _, _, hsk, hcell⟩ := (h.to hb.out).at_ hlt
      have hsn := hid_mk (allOf_snoc (ss.take k) s)
      have htk : Hid (ss.take (k + 1) = ss.take k ++ [s]) := by
        have hl : k < ss.length := by have := h.len; omega
        rw [Hid, List.take_succ_eq_append_getElem hl]
        rw [List.getElem?_eq_getElem hl] at hsk
        injection hsk with hsk
        rw [hsk]
      clear hsk
      have hsh := short_size s 500
      obtain ⟨t, ht⟩ : ∃ t, cut500 s = t := ⟨_, rfl⟩
      unfold cut500 at ht
      rw [ht] at hsh
      replace ht := hid_mk ht
      obtain ⟨P0, hP0⟩ : ∃ P0, allOf (ss.take k) = P0 := ⟨_, rfl⟩
      rw [hP0] at hH hal2 hall hsn ⊢
      have hsn2 : Hid (allOf (ss.take (k + 1)) = P0 ++ t) := by rw [Hid, htk.out, hsn.out]; unfold cut500; rw [ht.out]
      have hcat : Hid ((P0 ++ t).data.toList = P0.data.toList ++ t.data.toList) := cat_list P0 t
      have hsz : (P0 ++ t).size ≤ 10500 := by rw [ByteArray.size_append]; omega
      have hsz2 : (P0.data.toList ++ t.data.toList).length ≤ 10500 := by rw [← hcat.out]; exact hsz
      obtain ⟨D, hD⟩ : ∃ D, digL (P0.data.toList ++ t.data.toList) = D := ⟨_, rfl⟩
      replace hD := hid_mk hD
      replace hP0 := hid_mk hP0
      go_wp2_with fail
      refine (short_any s 500 _ (by omega)).mono ?_
      rw [ht.out]
      rintro e w2 ⟨rfl, rfl⟩
      go_wp2_with fail
      refine (Add_any w.heap.size g v _ t _ hH hbs (by omega) (by omega)).mono ?_
      rintro e w3 ⟨v3, rfl, hH3, hT, _⟩
      have q3 := hid_mk (hT.below hb.out hbs hgB (fun k hk => (World.ownsRow.lt hH.2.2 k hk).1))
      clear hT
      go_wp2_with fail
      refine (Sum_any w.heap.size g v3 _ _ hH3 (by omega)).mono ?_
      rw [hD.out]
      rintro e w4 ⟨rfl, hb4⟩
      have q4 := hid_mk (after (w := w) hb4 q3.out).1
      replace hH3 := hH3.keep hb4
      clear hb4 q3
      go_wp2_with fail
      refine (Of_any _ _ (by omega)).mono ?_
      rw [hcat.out, hD.out]
      rintro e w5 ⟨rfl, hb5⟩
      have q5 := hid_mk (after (w := w) hb5 q4.out).1
      replace hH3 := hH3.keep hb5
      clear hb5 q4
      go_wp2
      go_roundw
      case rel => exact ⟨k + 1, v3, by omega, by omega, by go_num, by rw [hsn2.out], q5, by rw [hsn2.out, hcat.out]; exact hH3⟩
      case measure => simp [intOf]; omega
    · have hD0 := digL_len (allOf (ss.take k)).data.toList
      obtain ⟨P0, hP0⟩ : ∃ P0, allOf (ss.take k) = P0 := ⟨_, rfl⟩
      rw [hP0] at hH hal2 hall hD0 ⊢
      obtain ⟨D, hD⟩ : ∃ D, digL P0.data.toList = D := ⟨_, rfl⟩
      rw [hD] at hD0
      have h32 : ((D.length : Int) == 32) = true := by rw [hD0]; rfl
      replace hD := hid_mk hD
      replace hD0 := hid_mk hD0
      replace hP0 := hid_mk hP0
      rcases (by omega : ¬ k < n ∨ (k < n ∧ 20 ≤ k)) with hlt' | ⟨hkn, hk2⟩
      case' inr => obtain ⟨b, o, s, rfl, _, _, _, hcell⟩ := (h.to hb.out).at_ hkn
      all_goals
        clear hlt
        go_wp2_with fail
        refine (Sum_any w.heap.size g v _ _ hH (by omega)).mono ?_
        rw [hD.out]
        rintro e w4 ⟨rfl, hb4⟩
        have q4 := hid_mk (after (w := w) hb4 hb.out).1
        replace hH := hH.keep hb4
        clear hb4
        go_wp2_with fail
        refine (Of_any _ _ (by omega)).mono ?_
        rw [hD.out]
        rintro e w5 ⟨rfl, hb5⟩
        have q5 := hid_mk (after (w := w) hb5 q4.out).1
        replace hH := hH.keep hb5
        clear hb5 q4
        go_wp2_with fail
        refine (Sum_any w.heap.size g v _ _ hH (by omega)).mono ?_
        rw [hD.out]
        rintro e w6 ⟨rfl, hb6⟩
        have q6 := hid_mk (after (w := w) hb6 q5.out).1
        replace hH := hH.keep hb6
        clear hb6 q5
        go_wp2_with fail
        refine (Sum_any w.heap.size g v _ _ hH (by omega)).mono ?_
        rw [hD.out]
        rintro e w7 ⟨rfl, hb7⟩
        have q7 := hid_mk (after (w := w) hb7 q6.out).1
        replace hH := hH.keep hb7
        clear hb7 q6
        go_wp2_with fail
        refine (Sum_any w.heap.size g v _ _ hH (by omega)).mono ?_
        rw [hD.out]
        rintro e w8 ⟨rfl, hb8⟩
        have q8 := hid_mk (after (w := w) hb8 q7.out).1
        clear hb8 q7
        go_wp2
        refine ends_ret hQ (results_tmp rfl _ _ _) rfl ?_
        exact ⟨ret_bool (by simp), q8.out⟩
theorem LawParts_walk (a0 : Option Addr) (len0 cap0 : Nat) (ss0 : List ByteArray) {w : World} (i0 : Strs w w.heap.size a0 len0 ss0) (lc0 : len0 ≤ cap0) (hs0 : cap0 * 16 ≤ 140737488351232) (_b0 : ∀ s ∈ ss0, s.size ≤ 140737488351232) :
    Calls Try.prog 6 #[.slice a0 len0 cap0] w fun e w' => e = .returned (.bool true) ∧ Below w.heap.size w w' := LawParts_any a0 len0 cap0 ss0 w i0 lc0 hs0
end Go.Proofs.Ytpfjfihfnplhfaa
