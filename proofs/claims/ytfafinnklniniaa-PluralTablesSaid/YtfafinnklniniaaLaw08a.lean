/-
  WHAT IS PROVED HERE: the walk of the law PluralTables: it returns true and writes nothing that was there. Condition: the number is an int64.
-/
import Derived.Test.YtfafinnklniniaaPlu8
namespace Go.Proofs.Ytfafinnklniniaa
open Go.RowKit

theorem ar_five : (tableL (rulesL ⟨#[97, 114]⟩)).length = 5 := by decide +kernel
set_option maxHeartbeats 1600000 in
theorem LawTables_any (l : ByteArray) (x : Int) (w : World) (hx0 : -9223372036854775808 ≤ x) (hx1 : x ≤ 9223372036854775807) : Calls Try.prog 6 #[.string l, .int .i64 x] w fun e w' => e = .returned (.bool true) ∧ Below w.heap.size w w' := by
  obtain ⟨y, hy⟩ : ∃ y, IntKind.i64.wrap (-x) = y := ⟨_, rfl⟩
  have hyb : -9223372036854775808 ≤ y ∧ y ≤ 9223372036854775807 ∧ amountOf y = amountOf x := by
    rcases Decidable.em (x = -9223372036854775808) with h | h
    · subst h
      have : y = -9223372036854775808 := by rw [← hy]; rfl
      subst this
      exact ⟨by omega, by omega, rfl⟩
    · have : y = -x := by rw [← hy]; exact IntWalk.i64_in _ (by omega)
      subst this
      refine ⟨by omega, by omega, ?_⟩
      unfold amountOf
      split <;> split <;> omega
  obtain ⟨hy0, hy1, hya⟩ := hyb
  have hy2 : wrap64 (-x) = y := by rw [← IntWalk.i64_left]; exact hy
  obtain ⟨V, hV⟩ : ∃ V, catL (amountOf x) (tableL (rulesL l)) = V := ⟨_, rfl⟩
  obtain ⟨TL, hTL⟩ : ∃ TL, tableL (rulesL l) = TL := ⟨_, rfl⟩
  have hV0 : Hid (V = catL (amountOf x) (TL.drop 0)) := by rw [Hid, List.drop_zero, ← hTL, hV]
  have hcx : Hid (catL (amountOf x) (tableL (rulesL l)) = V) := hV
  have hcy : Hid (catL (amountOf y) (tableL (rulesL l)) = V) := by rw [Hid, hya, hV]
  clear hya hV
  replace hTL := hid_mk hTL
  have fin : ∀ (wr : World) (Q : World → Prop), Hid (Below w.heap.size w wr) → True := fun _ _ _ => trivial
  clear fin
  refine calls_of_wpQ Try.func6 rfl ?_
  intro Q hQ
  simp only [Try.ntmps6, List.size_toArray, List.length_cons, List.length_nil, Nat.reduceAdd, Nat.reduceSub, Array.replicate_succ, Array.replicate_zero, List.push_toArray, List.append_toArray, List.nil_append, List.cons_append]
  go_wp2_with fail
  refine (Table_any l w).mono ?_
  rw [hTL.out]
  rintro e w1 ⟨A, n, c, rfl, hC, hn, hb1⟩
  replace hC := hid_mk hC
  replace hb1 := hid_mk hb1
  go_wp2_with fail
  go_loopw [5, 11] (fun sv iv wr => ∃ k : Nat, sv = .string other ∧ iv = .int .i64 k ∧ k ≤ n ∧ Hid (V = catL (amountOf x) (TL.drop k)) ∧ Hid (Below w1.heap.size w1 wr)) (fun _ iv _ => n - (intOf iv).toNat)
  case atStart => exact ⟨0, rfl, rfl, Nat.zero_le _, hV0, Below.refl _ _⟩
  case round =>
    clear hV0
    obtain ⟨k, rfl, rfl, hk, hVk, hb⟩ := hrel
    have q1 := hid_mk (after (w := w) hb.out hb1.out).1
    by_cases hlt : k < n
    · obtain ⟨b, o, z, v, rfl, hbl, hd, c0, c1, hru, hvn⟩ := (hC.out.to hb.out).at_ hlt
      obtain ⟨nm, r⟩ := z
      obtain ⟨A2, n2, c2⟩ := v
      unfold slV at c1
      dsimp only at *
      have k0 : (0 : Int) ≤ k := by omega
      have k1 : (k : Int) < n := by omega
      have q5 : Below wr.heap.size wr (wr.alloc (.cells #[.string nm, .slice A2 n2 c2] 36)) := (Below.refl _ _).alloc (Nat.le_refl _) _
      have hB5 := hid_mk (after (w := w1) q5 hb.out).1
      have hru5 := hid_mk (hru.to q5)
      have hX := hid_mk (Blk.new wr 36 #[.string nm, .slice A2 n2 c2])
      have x1 := hX.out.cell 1
      clear q5 hru
      cases hp : (ruleOk r && ruleHolds (amountOf x) r)
      · have hVn : Hid (V = catL (amountOf x) (TL.drop (k + 1))) := by rw [Hid, hVk.out, hd.out, catL, hp]; rfl
        replace hp := hid_mk hp
        go_wp2_with fail
        refine (Holds_any r A2 n2 c2 x _ 0 hx0 hx1 hvn hru5.out).mono ?_
        rw [hp.out]
        rintro e w3 ⟨rfl, hb3⟩
        have q3 := hid_mk (after (w := w1) hb3 hB5.out).1
        clear hb3
        go_wp2
        go_roundw
        case rel => exact ⟨k + 1, rfl, by go_num, by omega, hVn, q3⟩
        case measure => simp [intOf]; omega
      · have hVn : V = nm := by rw [hVk.out, hd.out, catL, hp]; rfl
        subst hVn
        replace hp := hid_mk hp
        go_wp2_with fail
        refine (Holds_any r A2 n2 c2 x _ 0 hx0 hx1 hvn hru5.out).mono ?_
        rw [hp.out]
        rintro e w3 ⟨rfl, hb3⟩
        have q3 := hid_mk (after (w := w1) hb3 hB5.out).1
        have q4 := hid_mk (after (w := w) q3.out hb1.out).1
        have y0 := (hX.out.keep hb3).cell 0
        clear hb3 hVk
        go_wp2_with fail
        refine (alive_any _).mono ?_
        rintro e w5 ⟨rfl, hb5⟩
        have q5 := hid_mk (after (w := w) hb5 q4.out).1
        clear hb5
        go_wp2_with fail
        refine (Table_any ⟨#[97, 114]⟩ _).mono ?_
        rintro e w6 ⟨A6, n6, c6, rfl, hC6, hn6, hb6⟩
        obtain rfl : n6 = 5 := by rw [← hC6.len, ar_five]
        have q6 := hid_mk (after (w := w) hb6 q5.out).1
        clear hb6 hC6
        go_wp2_with fail
        refine (Category_any l x _ hx0 hx1).mono ?_
        rw [hcx.out]
        rintro e w7 ⟨rfl, hb7⟩
        have q7 := hid_mk (after (w := w) hb7 q6.out).1
        clear hb7
        go_wp2_with fail
        refine (Category_any l y _ hy0 hy1).mono ?_
        rw [hcy.out]
        rintro e w8 ⟨rfl, hb8⟩
        have q8 := hid_mk (after (w := w) hb8 q7.out).1
        clear hb8
        go_wp2
        refine ends_ret hQ (results_tmp rfl _ _ _) rfl ?_
        exact ⟨ret_bool (by simp), q8.out⟩
    · have hVn : V = other := by rw [hVk.out, List.drop_eq_nil_of_le (by rw [hC.out.len]; omega)]; rfl
      subst hVn
      clear hVk
      go_wp2_with fail
      refine (alive_any _).mono ?_
      rintro e w5 ⟨rfl, hb5⟩
      have q5 := hid_mk (after (w := w) hb5 q1.out).1
      clear hb5
      go_wp2_with fail
      refine (Table_any ⟨#[97, 114]⟩ _).mono ?_
      rintro e w6 ⟨A6, n6, c6, rfl, hC6, hn6, hb6⟩
      obtain rfl : n6 = 5 := by rw [← hC6.len, ar_five]
      have q6 := hid_mk (after (w := w) hb6 q5.out).1
      clear hb6 hC6
      go_wp2_with fail
      refine (Category_any l x _ hx0 hx1).mono ?_
      rw [hcx.out]
      rintro e w7 ⟨rfl, hb7⟩
      have q7 := hid_mk (after (w := w) hb7 q6.out).1
      clear hb7
      go_wp2_with fail
      refine (Category_any l y _ hy0 hy1).mono ?_
      rw [hcy.out]
      rintro e w8 ⟨rfl, hb8⟩
      have q8 := hid_mk (after (w := w) hb8 q7.out).1
      clear hb8
      go_wp2
      refine ends_ret hQ (results_tmp rfl _ _ _) rfl ?_
      exact ⟨ret_bool (by simp), q8.out⟩
theorem LawTables_walk {w : World} (s : ByteArray) (_hs : s.size ≤ 140737488351232) (x : Int) (lo : -9223372036854775808 ≤ x) (hi : x ≤ 9223372036854775807) :
    Calls Try.prog 6 #[.string s, .int .i64 x] w fun e w' => e = .returned (.bool true) ∧ Below w.heap.size w w' := LawTables_any s x w lo hi
end Go.Proofs.Ytfafinnklniniaa
