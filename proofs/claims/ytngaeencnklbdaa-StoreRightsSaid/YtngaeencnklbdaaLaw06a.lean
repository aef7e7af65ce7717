/-
  WHAT IS PROVED HERE: the walks of the laws StoreRights and StoreGets: they return true and write nothing that was there. No condition.
-/
import Derived.Test.YtngaeencnklbdaaSto4
import Derived.Deep.RegionHeld3
namespace Go.Proofs.Ytngaeencnklbdaa
open Go.RowKit

theorem Reads.topS_ {w : World} {B size n : Nat} {e : TypeId} {A : Option Addr} {xs : List Value} (h : Reads w B e size A n xs) : Reads w w.heap.size e size A n xs :=
  ⟨h.1, fun hn => by
    obtain ⟨b, o, ea, hlt, _, hc⟩ := h.2 hn
    exact ⟨b, o, ea, hlt, .inl hlt, hc⟩⟩
theorem rotKs_len (is : List Itm) : (rotKs is).length ≤ is.length := by unfold rotKs; rw [List.length_map]; exact List.length_filter_le _ _
set_option maxRecDepth 100000 in
set_option maxHeartbeats 6400000 in
theorem LawRights_any (A : Option Addr) (n cap : Nat) (is0 : List Itm) (w : World) (h0 : Itms w w.heap.size A n is0) (hc0 : n ≤ cap) (hcap : cap * 40 ≤ 140737488351232) :
    Calls Try.prog 4 #[.agg #[.slice A n cap]] w fun e w' => e = .returned (.bool true) ∧ Below w.heap.size w w' := by
  obtain ⟨j0, hj0, hjz, hj1, hj2⟩ := info_parts16 strJ
  have h := fewI_itms h0
  have hcn := fewN_le n
  obtain ⟨m, hm⟩ : ∃ m, fewN n = m := ⟨_, rfl⟩
  obtain ⟨is, his⟩ : ∃ l, fewI is0 = l := ⟨_, rfl⟩
  rw [hm] at h hcn
  rw [his] at h
  have hmc : m ≤ cap := by omega
  have hlen := hid_mk h.len
  have hb0 : Hid (Below w.heap.size w (w.alloc (.cells #[.slice A n cap] 24))) := (Below.refl _ w).alloc (Nat.le_refl _) _
  have hB0 : Hid (Blk (w.alloc (.cells #[.slice A n cap] 24)) w.heap.size 24 #[.slice A n cap]) := Blk.new w 24 #[.slice A n cap]
  replace hm := hid_mk hm
  replace his := hid_mk his
  clear h0
  cases hr : rightI is
  · have hLr : Hid ((if rightI is = true then rotKs is else []) = ([] : List ByteArray)) := by rw [Hid, hr]; rfl
    obtain ⟨L, hL⟩ : ∃ L : List ByteArray, [] = L := ⟨_, rfl⟩
    have hLl : Hid (L.length ≤ 4096) := by rw [← hL]; simp [Hid]
    have hLe := hid_mk hL
    replace hLr := hid_mk (hLr.out.trans hL)
    replace hr := hid_mk hr
    refine calls_of_wpQ Try.func4 rfl ?_
    intro Q hQ
    simp only [Try.ntmps4, List.size_toArray, List.length_cons, List.length_nil, Nat.reduceAdd, Nat.reduceSub, Array.replicate_succ, Array.replicate_zero, List.push_toArray, List.append_toArray, List.nil_append, List.cons_append]
    go_wp2_with fail
    refine (few_any A n cap _ hc0 (by omega)).mono ?_
    rw [hm.out]
    rintro e w1 ⟨rfl, hb1⟩
    have q1 := hid_mk (after (w := w) hb1 hb0.out).1
    have hB1 := hid_mk (hB0.out.keep hb1)
    have z0 : w1.cell? ⟨w.heap.size, 0, none⟩ = some (.slice A n cap) := hB1.out.cell 0
    have z1 := hB1.out.frozen 0
    have z2 := hB1.out.lt
    have q2 : Hid (Below w.heap.size w (w1.setCell ⟨w.heap.size, 0, none⟩ (.slice A m cap))) := q1.out.setCell (p := ⟨w.heap.size, 0, none⟩) (by simp) _
    have hB2 : Hid (Blk (w1.setCell ⟨w.heap.size, 0, none⟩ (.slice A m cap)) w.heap.size 24 #[.slice A m cap]) := hB1.out.set_ 0 _
    clear hb1 hB0 hb0
    go_wp2_with fail
    obtain ⟨w2, hw2⟩ : ∃ u, w1.setCell ⟨w.heap.size, 0, none⟩ (.slice A m cap) = u := ⟨_, rfl⟩
    rw [hw2] at q2 hB2
    rw [hw2]
    clear z0 z1 z2 hB1 q1 hw2
    refine (RRight_any is A m cap _ (by omega) (h.to q2.out)).mono ?_
    rw [hr.out]
    rintro e w3 ⟨rfl, hb3⟩
    have q3 := hid_mk (after (w := w) hb3 q2.out).1
    have hB3 := hid_mk (hB2.out.keep hb3)
    clear hb3 hB2 q2
    have hX := hB3
    have q5 := q3.out
    have x0 : w3.cell? ⟨w.heap.size, 0, none⟩ = some (.slice A m cap) := hX.out.cell 0
    have hgx := hX.out.lt
    have hW : Hid (Strs w3 w3.heap.size none 0 L) := by rw [← hL]; exact Reads.none_
    replace hL := hid_mk hL
    go_wp2_with fail
    go_region_held3 (fun w' => w'.cell? ⟨w.heap.size, 0, none⟩ = some (.slice A m cap)) ((first | assumption | go_keep)) (first | (go_at_call 10; refine (alive_any _).mono ?_; rintro e w5 ⟨rfl, hb5⟩; have q5 := (after (w := w) hb5 (by go_grown)).1; replace hX := hid_mk (hX.out.keep (after hb5 (by go_grown)).1); replace hW := hid_mk (Strs.to hW.out (after hb5 (by go_grown)).1);  clear hb5 x0 hgx; have x0 := hX.out.cell 0; have hgx := hX.out.lt; change _ = some (Value.slice A m cap) at x0) | (go_at_call 14; refine (Right_any is A m cap _ (by omega) (h.to (by go_grown))).mono ?_; rw [hr.out]; rintro e w5 ⟨rfl, hb5⟩; have q5 := (after (w := w) hb5 (by go_grown)).1; replace hX := hid_mk (hX.out.keep (after hb5 (by go_grown)).1); replace hW := hid_mk (Strs.to hW.out (after hb5 (by go_grown)).1);  clear hb5 x0 hgx; have x0 := hX.out.cell 0; have hgx := hX.out.lt; change _ = some (Value.slice A m cap) at x0) | (go_at_call 12; refine (RRight_any is A m cap _ (by omega) (h.to (by go_grown))).mono ?_; rw [hr.out]; rintro e w5 ⟨rfl, hb5⟩; have q5 := (after (w := w) hb5 (by go_grown)).1; replace hX := hid_mk (hX.out.keep (after hb5 (by go_grown)).1); replace hW := hid_mk (Strs.to hW.out (after hb5 (by go_grown)).1);  clear hb5 x0 hgx; have x0 := hX.out.cell 0; have hgx := hX.out.lt; change _ = some (Value.slice A m cap) at x0) | (go_at_call 16; refine (Rotten_any is A m cap _ (by omega) (h.to (by go_grown))).mono ?_; rw [hLr.out]; rintro e w5 ⟨A5, n5, c5, rfl, hc5, hR5, hb5⟩; have q5 := (after (w := w) hb5 (by go_grown)).1; have hR6 : Hid (Strs w5 w5.heap.size A5 n5 L) := Reads.topS_ hR5; have hn5 : Hid (n5 ≤ 4096) := (show n5 ≤ 4096 from by (have h1 := Strs.len hR5; have h2 := hLl.out; omega)); clear hR5; replace hX := hid_mk (hX.out.keep (after hb5 (by go_grown)).1); replace hW := hid_mk (Strs.to hW.out (after hb5 (by go_grown)).1);  clear hb5 x0 hgx; have x0 := hX.out.cell 0; have hgx := hX.out.lt; change _ = some (Value.slice A m cap) at x0) | (go_at_call 15; refine (Like_same A5 n5 c5 none 0 0 L _ (Strs.to hR6.out (by go_grown)) (Strs.to hW.out (by go_grown)) (by have := hn5.out; omega)).mono ?_; rintro e w5 ⟨rfl, hb5⟩; have q5 := (after (w := w) hb5 (by go_grown)).1; replace hX := hid_mk (hX.out.keep (after hb5 (by go_grown)).1); replace hW := hid_mk (Strs.to hW.out (after hb5 (by go_grown)).1);  clear hb5 x0 hgx; have x0 := hX.out.cell 0; have hgx := hX.out.lt; change _ = some (Value.slice A m cap) at x0))
    go_wp2
    refine ends_ret hQ (results_tmp rfl _ _ _) rfl ?_
    exact ⟨rfl, by first | assumption | go_grown⟩
  · have hLr : Hid ((if rightI is = true then rotKs is else []) = rotKs is) := by rw [Hid, hr]; rfl
    obtain ⟨hl4, hok, _⟩ := rightI_all hr
    have hm4 : m ≤ 4096 := by rw [← hlen.out]; exact hl4
    obtain ⟨L, hL⟩ : ∃ L : List ByteArray, rotKs is = L := ⟨_, rfl⟩
    have hLl : Hid (L.length ≤ 4096) := by rw [← hL]; exact Nat.le_trans (rotKs_len is) hl4
    have hbz : Hid (∀ i ∈ is, i.b.size ≤ 137438953472) := fun i hi => by have := itmOk_size (hok i hi); omega
    replace hLr := hid_mk (hLr.out.trans hL)
    replace hL := hid_mk hL
    replace hr := hid_mk hr
    clear hl4 hok
    refine calls_of_wpQ Try.func4 rfl ?_
    intro Q hQ
    simp only [Try.ntmps4, List.size_toArray, List.length_cons, List.length_nil, Nat.reduceAdd, Nat.reduceSub, Array.replicate_succ, Array.replicate_zero, List.push_toArray, List.append_toArray, List.nil_append, List.cons_append]
    go_wp2_with fail
    refine (few_any A n cap _ hc0 (by omega)).mono ?_
    rw [hm.out]
    rintro e w1 ⟨rfl, hb1⟩
    have q1 := hid_mk (after (w := w) hb1 hb0.out).1
    have hB1 := hid_mk (hB0.out.keep hb1)
    have z0 : w1.cell? ⟨w.heap.size, 0, none⟩ = some (.slice A n cap) := hB1.out.cell 0
    have z1 := hB1.out.frozen 0
    have z2 := hB1.out.lt
    have q2 : Hid (Below w.heap.size w (w1.setCell ⟨w.heap.size, 0, none⟩ (.slice A m cap))) := q1.out.setCell (p := ⟨w.heap.size, 0, none⟩) (by simp) _
    have hB2 : Hid (Blk (w1.setCell ⟨w.heap.size, 0, none⟩ (.slice A m cap)) w.heap.size 24 #[.slice A m cap]) := hB1.out.set_ 0 _
    clear hb1 hB0 hb0
    go_wp2_with fail
    obtain ⟨w2, hw2⟩ : ∃ u, w1.setCell ⟨w.heap.size, 0, none⟩ (.slice A m cap) = u := ⟨_, rfl⟩
    rw [hw2] at q2 hB2
    rw [hw2]
    clear z0 z1 z2 hB1 q1 hw2
    refine (RRight_any is A m cap _ (by omega) (h.to q2.out)).mono ?_
    rw [hr.out]
    rintro e w3 ⟨rfl, hb3⟩
    have q3 := hid_mk (after (w := w) hb3 q2.out).1
    have hB3 := hid_mk (hB2.out.keep hb3)
    clear hb3 hB2 q2
    have own0 : OwnM w3 w.heap.size 9 (.slice none 0 0) 0 ((rotKs (is.take 0)).map vstr) := OwnM.nil
    have x0 : w3.cell? ⟨w.heap.size, 0, none⟩ = some (.slice A m cap) := hB3.out.cell 0
    have hgx := hB3.out.lt
    go_wp2
    go_loopw [3, 13] (fun o iv wr => ∃ (k mm co : Nat) (Ao : Option Addr), o = .slice Ao mm co ∧ iv = .int .i64 k ∧ k ≤ m ∧ mm ≤ k ∧ mm ≤ co ∧ OwnM wr w.heap.size 9 (.slice Ao mm co) mm ((rotKs (is.take k)).map vstr) ∧ Hid (Blk wr w.heap.size 24 #[.slice A m cap]) ∧ Hid (Below w.heap.size w wr)) (fun _ iv _ => m - (intOf iv).toNat)
    case atStart => exact ⟨0, 0, 0, none, rfl, rfl, Nat.zero_le _, Nat.le_refl _, Nat.le_refl _, own0, hB3, q3⟩
    case round =>
      clear own0 q3 x0 hgx hB3
      obtain ⟨k, mm, co, Ao, rfl, rfl, hk, hmk, hmo, hown, hBr, hb⟩ := hrel
      by_cases hlt : k < m
      · obtain ⟨b, o, i, rfl, hbl, hik, c0, c1, c2⟩ := (h.to hb.out).at_ hlt
        have htk := hid_mk (rotKs_take hik)
        have hbs := hbz.out i (List.mem_of_getElem? hik)
        have hrot := Rot_any i (wr.alloc (.cells #[.string i.k, .string i.b, .int .i64 i.r] 35)) hbs
        obtain ⟨K, Bd, rf⟩ := i
        dsimp only at c0 c1 c2 hrot
        unfold itmV at hrot
        dsimp only at hrot
        obtain ⟨rb, hrb⟩ : ∃ b, rotB ⟨K, Bd, rf⟩ = b := ⟨_, rfl⟩
        rw [hrb] at hrot htk
        have hb2 : Hid (Below w.heap.size w (wr.alloc (.cells #[.string K, .string Bd, .int .i64 rf] 35))) := hb.out.alloc hb.out.size _
        have hBr2 : Hid (Blk (wr.alloc (.cells #[.string K, .string Bd, .int .i64 rf] 35)) w.heap.size 24 #[.slice (some ⟨b, o, none⟩) m cap]) := hBr.out.alloc _
        have hN2 : Hid (Blk (wr.alloc (.cells #[.string K, .string Bd, .int .i64 rf] 35)) wr.heap.size 35 #[.string K, .string Bd, .int .i64 rf]) := Blk.new wr 35 #[.string K, .string Bd, .int .i64 rf]
        have own2 := hown.alloc (.cells #[.string K, .string Bd, .int .i64 rf] 35)
        replace hik := hid_mk hik
        replace hrb := hid_mk hrb
        have k0 : (0 : Int) ≤ k := by omega
        have k1 : (k : Int) < m := by omega
        cases rb
        · have hown3 : rotKs (is.take (k + 1)) = rotKs (is.take k) := by rw [htk.out]; simp
          replace hown3 := hid_mk hown3
          go_wp2_with fail
          refine hrot.mono ?_
          rintro e w3 ⟨rfl, hb3⟩
          have q3 := hid_mk (after (w := w) hb3 hb2.out).1
          have own3 := own2.below hb3
          have hBr3 := hid_mk (hBr2.out.keep hb3)
          clear hb3
          go_wp2
          go_roundw
          case rel => exact ⟨k + 1, mm, co, Ao, rfl, by go_num, by omega, by omega, hmo, by rw [hown3.out]; exact own3, hBr3, q3⟩
          case measure => simp [intOf]; omega
        · have hown3 : rotKs (is.take (k + 1)) = rotKs (is.take k) ++ [K] := by rw [htk.out]; simp
          replace hown3 := hid_mk hown3
          go_wp2_with fail
          refine hrot.mono ?_
          rintro e w3 ⟨rfl, hb3⟩
          have q3 := hid_mk (after (w := w) hb3 hb2.out).1
          have own3 := own2.below hb3
          have hBr3 := hid_mk (hBr2.out.keep hb3)
          have hN3 := hN2.out.keep hb3
          have d0 : w3.cell? ⟨wr.heap.size, 0, none⟩ = some (.string K) := hN3.cell 0
          have dl := hN3.lt
          clear hb3
          go_wp2_with (at_builtin; refine wpl_append_new rfl (.tmp 19) (.tmp 22) 32 rfl 9 j0 _ 16 Try.underlying32 hj0 hjz hj1 hj2 rfl q3.out (.slice Ao mm co) mm _ rfl own3 ([K].map vstr) 1 1 rfl _ rfl (by simp [Act.eval]) (vstr_one _) (by omega) (by omega) ?_; intro A5 c5 w5 hown5 hc5 q5 st hs5; rw [← List.map_append] at hown5)
          have hBr5 : Hid (Blk w5 w.heap.size 24 #[.slice (some ⟨b, o, none⟩) m cap]) := st.stay _ _ _ hBr3.out (by decide)
          go_roundw
          case rel => exact ⟨k + 1, mm + 1, c5, A5, rfl, by go_num, by omega, by omega, hc5, by rw [hown3.out]; exact hown5, hBr5, hid_mk q5⟩
          case measure => simp [intOf]; omega
      · obtain rfl : m = k := by omega
        have htk : Hid (is.take m = is) := List.take_of_length_le (by rw [hlen.out]; omega)
        have hW : Hid (Strs wr wr.heap.size Ao mm L) := by
          have h9 := hown
          rw [htk.out, hL.out] at h9
          exact h9.reads
        have hX := hBr
        have q5 := hb.out
        have x0 : wr.cell? ⟨w.heap.size, 0, none⟩ = some (.slice A m cap) := hX.out.cell 0
        have hgx := hX.out.lt
        clear hown
        go_wp2_with fail
        go_region_held3 (fun w' => w'.cell? ⟨w.heap.size, 0, none⟩ = some (.slice A m cap)) ((first | assumption | go_keep)) (first | (go_at_call 10; refine (alive_any _).mono ?_; rintro e w5 ⟨rfl, hb5⟩; have q5 := (after (w := w) hb5 (by go_grown)).1; replace hX := hid_mk (hX.out.keep (after hb5 (by go_grown)).1); replace hW := hid_mk (Strs.to hW.out (after hb5 (by go_grown)).1);  clear hb5 x0 hgx; have x0 := hX.out.cell 0; have hgx := hX.out.lt; change _ = some (Value.slice A m cap) at x0) | (go_at_call 14; refine (Right_any is A m cap _ (by omega) (h.to (by go_grown))).mono ?_; rw [hr.out]; rintro e w5 ⟨rfl, hb5⟩; have q5 := (after (w := w) hb5 (by go_grown)).1; replace hX := hid_mk (hX.out.keep (after hb5 (by go_grown)).1); replace hW := hid_mk (Strs.to hW.out (after hb5 (by go_grown)).1);  clear hb5 x0 hgx; have x0 := hX.out.cell 0; have hgx := hX.out.lt; change _ = some (Value.slice A m cap) at x0) | (go_at_call 12; refine (RRight_any is A m cap _ (by omega) (h.to (by go_grown))).mono ?_; rw [hr.out]; rintro e w5 ⟨rfl, hb5⟩; have q5 := (after (w := w) hb5 (by go_grown)).1; replace hX := hid_mk (hX.out.keep (after hb5 (by go_grown)).1); replace hW := hid_mk (Strs.to hW.out (after hb5 (by go_grown)).1);  clear hb5 x0 hgx; have x0 := hX.out.cell 0; have hgx := hX.out.lt; change _ = some (Value.slice A m cap) at x0) | (go_at_call 16; refine (Rotten_any is A m cap _ (by omega) (h.to (by go_grown))).mono ?_; rw [hLr.out]; rintro e w5 ⟨A5, n5, c5, rfl, hc5, hR5, hb5⟩; have q5 := (after (w := w) hb5 (by go_grown)).1; have hR6 : Hid (Strs w5 w5.heap.size A5 n5 L) := Reads.topS_ hR5; have hn5 : Hid (n5 ≤ 4096) := (show n5 ≤ 4096 from by (have h1 := Strs.len hR5; have h2 := hLl.out; omega)); clear hR5; replace hX := hid_mk (hX.out.keep (after hb5 (by go_grown)).1); replace hW := hid_mk (Strs.to hW.out (after hb5 (by go_grown)).1);  clear hb5 x0 hgx; have x0 := hX.out.cell 0; have hgx := hX.out.lt; change _ = some (Value.slice A m cap) at x0) | (go_at_call 15; refine (Like_same A5 n5 c5 Ao mm co L _ (Strs.to hR6.out (by go_grown)) (Strs.to hW.out (by go_grown)) (by have := hn5.out; omega)).mono ?_; rintro e w5 ⟨rfl, hb5⟩; have q5 := (after (w := w) hb5 (by go_grown)).1; replace hX := hid_mk (hX.out.keep (after hb5 (by go_grown)).1); replace hW := hid_mk (Strs.to hW.out (after hb5 (by go_grown)).1);  clear hb5 x0 hgx; have x0 := hX.out.cell 0; have hgx := hX.out.lt; change _ = some (Value.slice A m cap) at x0))
        go_wp2
        refine ends_ret hQ (results_tmp rfl _ _ _) rfl ?_
        exact ⟨rfl, by first | assumption | go_grown⟩
theorem LawRights_walk {w : World} (a0 : Option Addr) (len0 cap0 : Nat) (is0 : List Itm) (i0 : Itms w w.heap.size a0 len0 is0) (lc0 : len0 ≤ cap0) (hs0 : cap0 * 40 ≤ 140737488351232) :
    Calls Try.prog 4 #[.agg #[.slice a0 len0 cap0]] w fun e w' => e = .returned (.bool true) ∧ Below w.heap.size w w' := LawRights_any a0 len0 cap0 is0 w i0 lc0 hs0
end Go.Proofs.Ytngaeencnklbdaa
