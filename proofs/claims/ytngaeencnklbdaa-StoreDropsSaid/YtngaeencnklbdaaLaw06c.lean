/-
  WHAT IS PROVED HERE: the walk of the law StoreDrops: it returns true and writes nothing that was there. No condition.
-/
import Derived.Test.YtngaeencnklbdaaSto8
namespace Go.Proofs.Ytngaeencnklbdaa
open Go.RowKit

theorem own_top {w : World} {B n c : Nat} {A : Option Addr} {is : List Itm} (h : OwnI w B (.slice A n c) n is) : Itms w w.heap.size A n is := h.itms
set_option maxRecDepth 100000 in
set_option maxHeartbeats 6400000 in
theorem LawDrops_any (A : Option Addr) (n cap : Nat) (is0 : List Itm) (ky : ByteArray) (w : World) (h0 : Itms w w.heap.size A n is0) (hc0 : n ≤ cap) (hcap : cap * 40 ≤ 140737488351232) :
    Calls Try.prog 6 #[.agg #[.slice A n cap], .string ky] w fun e w' => e = .returned (.bool true) ∧ Below w.heap.size w w' := by
  have h := fewI_itms h0
  have hcn := fewN_le n
  obtain ⟨m, hm⟩ : ∃ m, fewN n = m := ⟨_, rfl⟩
  obtain ⟨is, his⟩ : ∃ l, fewI is0 = l := ⟨_, rfl⟩
  rw [hm] at h hcn
  rw [his] at h
  have hmc : m ≤ cap := by omega
  have hmb : m ≤ 3518437208800 := by omega
  have hb0 : Hid (Below w.heap.size w (w.alloc (.cells #[.slice A n cap] 24))) := (Below.refl _ w).alloc (Nat.le_refl _) _
  have hB0 : Hid (Blk (w.alloc (.cells #[.slice A n cap] 24)) w.heap.size 24 #[.slice A n cap]) := Blk.new w 24 #[.slice A n cap]
  have hlen := hid_mk h.len
  replace hm := hid_mk hm
  replace his := hid_mk his
  clear h0
  obtain ⟨rt, hr⟩ : ∃ b, rightI is = b := ⟨_, rfl⟩
  obtain ⟨⟨LA, ea⟩, hE⟩ : ∃ E, dropI is ky = E := ⟨_, rfl⟩
  obtain ⟨⟨LC, ec⟩, hS⟩ : ∃ E, sweepE is = E := ⟨_, rfl⟩
  have hfa : Hid (rt = false → LA = [] ∧ ea = 1 ∧ LC = [] ∧ ec = 1) := by
    rintro rfl
    have h1 : dropI is ky = ([], 1) := by unfold dropI; rw [hr]; rfl
    have h2 : sweepE is = ([], 1) := by unfold sweepE; rw [hr]; rfl
    rw [hE] at h1
    rw [hS] at h2
    injection h1 with h1 h3
    injection h2 with h2 h4
    exact ⟨h1, h3, h2, h4⟩
  have htr : Hid (rt = true → LC = sweepI is ∧ ec = 0 ∧ is.length ≤ 4096 ∧ LA.length ≤ 4096) := by
    rintro rfl
    have h2 : sweepE is = (sweepI is, 0) := by unfold sweepE; rw [hr]; rfl
    rw [hS] at h2
    injection h2 with h2 h4
    have hl := (rightI_all hr).1
    refine ⟨h2, h4, hl, ?_⟩
    have h1 : (dropI is ky).1.length ≤ is.length := by
      unfold dropI
      rw [if_pos hr]
      split
      · simp
      · split
        · simp
        · split
          · simp
          · unfold withI; rw [List.length_map]; exact Nat.le_refl _
    rw [hE] at h1
    dsimp only at h1
    omega
  replace hr := hid_mk hr
  replace hE := hid_mk hE
  replace hS := hid_mk hS
  refine calls_of_wpQ Try.func6 rfl ?_
  intro Q hQ
  simp only [Try.ntmps6, List.size_toArray, List.length_cons, List.length_nil, Nat.reduceAdd, Nat.reduceSub, Array.replicate_succ, Array.replicate_zero, List.push_toArray, List.append_toArray, List.nil_append, List.cons_append]
  go_wp2_with fail
  refine (few_any A n cap _ hc0 (by omega)).mono ?_
  rw [hm.out]
  rintro e w1 ⟨rfl, hb1⟩
  have q1 := hid_mk (after (w := w) hb1 hb0.out).1
  have hB1 := hid_mk (hB0.out.keep hb1)
  have z0 : w1.cell? ⟨w.heap.size, 0, none⟩ = some (.slice A n cap) := hB1.out.cell 0
  have z1 := hB1.out.frozen 0
  have z2 := hB1.out.lt
  have q2 : Hid (Below w.heap.size w (w1.setCell ⟨w.heap.size, 0, none⟩ (.slice A m cap))) := q1.out.setCell (p := ⟨w.heap.size, 0, none⟩) (by simp) _
  have hX2 : Hid (Blk (w1.setCell ⟨w.heap.size, 0, none⟩ (.slice A m cap)) w.heap.size 24 #[.slice A m cap]) := hB1.out.set_ 0 _
  clear hb1 hB0 hb0
  go_wp2_with fail
  obtain ⟨w2, hw2⟩ : ∃ u, w1.setCell ⟨w.heap.size, 0, none⟩ (.slice A m cap) = u := ⟨_, rfl⟩
  rw [hw2] at q2 hX2
  rw [hw2]
  clear z0 z1 z2 hB1 q1 hw2
  refine (Drop_any is A m cap ky _ (by omega) (h.to q2.out)).mono ?_
  rw [hE.out]
  rintro e w3 ⟨v3, rfl, own3, hb3⟩
  obtain ⟨A3, c3, rfl, _, _⟩ := own_slice own3
  dsimp only at own3
  obtain ⟨na, hna⟩ : ∃ n, LA.length = n := ⟨_, rfl⟩
  rw [hna] at own3
  dsimp only
  rw [hna]
  have q3 := hid_mk ((after (w := w) hb3 q2.out).1.alloc (Nat.le_trans q2.out.size hb3.size) (.cells #[.slice A3 na c3] 24))
  have hX3 := hid_mk ((hX2.out.keep hb3).alloc (.cells #[.slice A3 na c3] 24))
  have hA3 : Hid (Blk (w3.alloc (.cells #[.slice A3 na c3] 24)) w3.heap.size 24 #[.slice A3 na c3]) := Blk.new w3 24 #[.slice A3 na c3]
  have IA3 : Hid (Itms (w3.alloc (.cells #[.slice A3 na c3] 24)) w3.heap.size A3 na LA) := (own_top own3).to (by go_grown)
  have x0 : (w3.alloc (.cells #[.slice A3 na c3] 24)).cell? ⟨w.heap.size, 0, none⟩ = some (.slice A m cap) := hX3.out.cell 0
  have xl := hX3.out.lt
  clear hb3 hX2 q2 own3
  go_wp2_with fail
  refine (RDrop_any is A m cap ky _ (by omega) (h.to q3.out)).mono ?_
  rw [hE.out]
  rintro e w4 ⟨v4, rfl, own4, hb4⟩
  obtain ⟨A4, c4, rfl, _, _⟩ := own_slice own4
  dsimp only at own4
  rw [hna] at own4
  dsimp only
  rw [hna]
  have q4 := hid_mk ((after (w := w) hb4 q3.out).1.alloc (Nat.le_trans q3.out.size hb4.size) (.cells #[.slice A4 na c4] 24))
  have hX4 := hid_mk ((hX3.out.keep hb4).alloc (.cells #[.slice A4 na c4] 24))
  have hA4 := hid_mk ((hA3.out.keep hb4).alloc (.cells #[.slice A4 na c4] 24))
  have hB4 : Hid (Blk (w4.alloc (.cells #[.slice A4 na c4] 24)) w4.heap.size 24 #[.slice A4 na c4]) := Blk.new w4 24 #[.slice A4 na c4]
  have IA4 : Hid (Itms (w4.alloc (.cells #[.slice A4 na c4] 24)) w4.heap.size A3 na LA) := Itms.to (Itms.top (IA3.out.to hb4)) (by go_grown)
  have IB4 : Hid (Itms (w4.alloc (.cells #[.slice A4 na c4] 24)) w4.heap.size A4 na LA) := (own_top own4).to (by go_grown)
  have x1 : (w4.alloc (.cells #[.slice A4 na c4] 24)).cell? ⟨w.heap.size, 0, none⟩ = some (.slice A m cap) := hX4.out.cell 0
  have xl1 := hX4.out.lt
  clear hb4 hX3 hA3 q3 own4 IA3 x0 xl
  go_wp2_with fail
  refine (Sweep_any is A m cap _ (by omega) (h.to q4.out)).mono ?_
  rw [hS.out]
  rintro e w5 ⟨v5, rfl, own5, hb5⟩
  obtain ⟨A5, c5, rfl, _, _⟩ := own_slice own5
  dsimp only at own5
  obtain ⟨nc, hnc⟩ : ∃ n, LC.length = n := ⟨_, rfl⟩
  rw [hnc] at own5
  dsimp only
  rw [hnc]
  have q5 := hid_mk ((after (w := w) hb5 q4.out).1.alloc (Nat.le_trans q4.out.size hb5.size) (.cells #[.slice A5 nc c5] 24))
  have hX5 := hid_mk ((hX4.out.keep hb5).alloc (.cells #[.slice A5 nc c5] 24))
  have hA5 := hid_mk ((hA4.out.keep hb5).alloc (.cells #[.slice A5 nc c5] 24))
  have hB5 := hid_mk ((hB4.out.keep hb5).alloc (.cells #[.slice A5 nc c5] 24))
  have hC5 : Hid (Blk (w5.alloc (.cells #[.slice A5 nc c5] 24)) w5.heap.size 24 #[.slice A5 nc c5]) := Blk.new w5 24 #[.slice A5 nc c5]
  have IA5 : Hid (Itms (w5.alloc (.cells #[.slice A5 nc c5] 24)) w5.heap.size A3 na LA) := Itms.to (Itms.top (IA4.out.to hb5)) (by go_grown)
  have IB5 : Hid (Itms (w5.alloc (.cells #[.slice A5 nc c5] 24)) w5.heap.size A4 na LA) := Itms.to (Itms.top (IB4.out.to hb5)) (by go_grown)
  have IC5 : Hid (Itms (w5.alloc (.cells #[.slice A5 nc c5] 24)) w5.heap.size A5 nc LC) := (own_top own5).to (by go_grown)
  have x2 : (w5.alloc (.cells #[.slice A5 nc c5] 24)).cell? ⟨w.heap.size, 0, none⟩ = some (.slice A m cap) := hX5.out.cell 0
  have xl2 := hX5.out.lt
  clear hb5 hX4 hA4 hB4 q4 own5 IA4 IB4 x1 xl1
  go_wp2_with fail
  refine (RRight_any is A m cap _ (by omega) (h.to q5.out)).mono ?_
  rw [hr.out]
  rintro e w6 ⟨rfl, hb6⟩
  have q6 := (after (w := w) hb6 q5.out).1
  have hX := hid_mk (hX5.out.keep hb6)
  have hA := hid_mk (hA5.out.keep hb6)
  have hB := hid_mk (hB5.out.keep hb6)
  have hC := hid_mk (hC5.out.keep hb6)
  have IA := hid_mk (Itms.top (IA5.out.to hb6))
  have IB := hid_mk (Itms.top (IB5.out.to hb6))
  have IC := hid_mk (Itms.top (IC5.out.to hb6))
  clear hb6 hX5 hA5 hB5 hC5 q5 IA5 IB5 IC5 x2 xl2
  obtain ⟨ga, hga⟩ : ∃ g, w3.heap.size = g := ⟨_, rfl⟩
  obtain ⟨gb, hgb⟩ : ∃ g, w4.heap.size = g := ⟨_, rfl⟩
  obtain ⟨gc, hgc⟩ : ∃ g, w5.heap.size = g := ⟨_, rfl⟩
  rw [hga] at hA
  rw [hgb] at hB
  rw [hgc] at hC
  rw [hga, hgb, hgc]
  clear hga hgb hgc
  have x0 : w6.cell? ⟨w.heap.size, 0, none⟩ = some (.slice A m cap) := hX.out.cell 0
  have a0 : w6.cell? ⟨ga, 0, none⟩ = some (.slice A3 na c3) := hA.out.cell 0
  have b0 : w6.cell? ⟨gb, 0, none⟩ = some (.slice A4 na c4) := hB.out.cell 0
  have c0 : w6.cell? ⟨gc, 0, none⟩ = some (.slice A5 nc c5) := hC.out.cell 0
  have xl := hX.out.lt
  have al := hA.out.lt
  have bl := hB.out.lt
  have cl := hC.out.lt
  replace hna := hid_mk hna
  replace hnc := hid_mk hnc
  cases rt
  · obtain ⟨rfl, rfl, rfl, rfl⟩ := hfa.out rfl
    obtain rfl : 0 = na := hna.out
    obtain rfl : 0 = nc := hnc.out
    go_wp2
    refine ends_ret hQ (results_tmp rfl _ _ _) rfl ?_
    exact ⟨rfl, q6⟩
  · obtain ⟨hLC, rfl, hl4, hla4⟩ := htr.out rfl
    subst hLC
    have hna4 : na ≤ 4096 := by rw [← hna.out]; exact hla4
    have hnc4 : nc ≤ 4096 := by rw [← hnc.out]; exact Nat.le_trans (List.length_filter_le _ _) hl4
    clear hla4
    replace hl4 := hid_mk hl4
    go_wp2_with fail
    go_region_held3 (fun w' => w'.cell? ⟨w.heap.size, 0, none⟩ = some (.slice A m cap) ∧ w'.cell? ⟨ga, 0, none⟩ = some (.slice A3 na c3) ∧ w'.cell? ⟨gb, 0, none⟩ = some (.slice A4 na c4) ∧ w'.cell? ⟨gc, 0, none⟩ = some (.slice A5 nc c5)) ((first | (refine ⟨?_, ?_, ?_, ?_⟩ <;> assumption) | go_keep)) (first | (go_at_call 10; refine (alive_any _).mono ?_; rintro e w7 ⟨rfl, hb7⟩; have q6 := (after (w := w) hb7 (by go_grown)).1; replace hX := hid_mk (hX.out.keep (after hb7 (by go_grown)).1); replace hA := hid_mk (hA.out.keep (after hb7 (by go_grown)).1); replace hB := hid_mk (hB.out.keep (after hb7 (by go_grown)).1); replace hC := hid_mk (hC.out.keep (after hb7 (by go_grown)).1); replace IA := hid_mk (Itms.top (IA.out.to (after hb7 (by go_grown)).1)); replace IB := hid_mk (Itms.top (IB.out.to (after hb7 (by go_grown)).1)); replace IC := hid_mk (Itms.top (IC.out.to (after hb7 (by go_grown)).1));  clear hb7 x0 a0 b0 c0 xl al bl cl; have x0 := hX.out.cell 0; have a0 := hA.out.cell 0; have b0 := hB.out.cell 0; have c0 := hC.out.cell 0; have xl := hX.out.lt; have al := hA.out.lt; have bl := hB.out.lt; have cl := hC.out.lt; change _ = some (Value.slice A m cap) at x0; change _ = some (Value.slice A3 na c3) at a0; change _ = some (Value.slice A4 na c4) at b0; change _ = some (Value.slice A5 nc c5) at c0) | (go_at_call_of 11 (Value.agg #[Value.slice A3 na c3]); refine (SLike_same A3 na c3 A4 c4 LA _ (by omega) (IA.out.to (by go_grown)) (IB.out.to (by go_grown))).mono ?_; rintro e w7 ⟨rfl, hb7⟩; have q6 := (after (w := w) hb7 (by go_grown)).1; replace hX := hid_mk (hX.out.keep (after hb7 (by go_grown)).1); replace hA := hid_mk (hA.out.keep (after hb7 (by go_grown)).1); replace hB := hid_mk (hB.out.keep (after hb7 (by go_grown)).1); replace hC := hid_mk (hC.out.keep (after hb7 (by go_grown)).1); replace IA := hid_mk (Itms.top (IA.out.to (after hb7 (by go_grown)).1)); replace IB := hid_mk (Itms.top (IB.out.to (after hb7 (by go_grown)).1)); replace IC := hid_mk (Itms.top (IC.out.to (after hb7 (by go_grown)).1));  clear hb7 x0 a0 b0 c0 xl al bl cl; have x0 := hX.out.cell 0; have a0 := hA.out.cell 0; have b0 := hB.out.cell 0; have c0 := hC.out.cell 0; have xl := hX.out.lt; have al := hA.out.lt; have bl := hB.out.lt; have cl := hC.out.lt; change _ = some (Value.slice A m cap) at x0; change _ = some (Value.slice A3 na c3) at a0; change _ = some (Value.slice A4 na c4) at b0; change _ = some (Value.slice A5 nc c5) at c0) | (go_at_call 22; refine (RSweep_any is A m cap _ (by omega) (h.to (by go_grown))).mono ?_; rintro e w7 ⟨v7, rfl, own7, hb7⟩; obtain ⟨A7, c7, rfl, _, _⟩ := own_slice own7; rw [hnc.out] at own7 ⊢; have ID := hid_mk (own_top own7); clear own7; have q6 := (after (w := w) hb7 (by go_grown)).1; replace hX := hid_mk (hX.out.keep (after hb7 (by go_grown)).1); replace hA := hid_mk (hA.out.keep (after hb7 (by go_grown)).1); replace hB := hid_mk (hB.out.keep (after hb7 (by go_grown)).1); replace hC := hid_mk (hC.out.keep (after hb7 (by go_grown)).1); replace IA := hid_mk (Itms.top (IA.out.to (after hb7 (by go_grown)).1)); replace IB := hid_mk (Itms.top (IB.out.to (after hb7 (by go_grown)).1)); replace IC := hid_mk (Itms.top (IC.out.to (after hb7 (by go_grown)).1));  clear hb7 x0 a0 b0 c0 xl al bl cl; have x0 := hX.out.cell 0; have a0 := hA.out.cell 0; have b0 := hB.out.cell 0; have c0 := hC.out.cell 0; have xl := hX.out.lt; have al := hA.out.lt; have bl := hB.out.lt; have cl := hC.out.lt; change _ = some (Value.slice A m cap) at x0; change _ = some (Value.slice A3 na c3) at a0; change _ = some (Value.slice A4 na c4) at b0; change _ = some (Value.slice A5 nc c5) at c0) | (go_at_call_of 11 (Value.agg #[Value.slice A5 nc c5]); refine (SLike_same A5 nc c5 A7 c7 (sweepI is) _ (by omega) (IC.out.to (by go_grown)) (ID.out.to (by go_grown))).mono ?_; rintro e w7 ⟨rfl, hb7⟩; have q6 := (after (w := w) hb7 (by go_grown)).1; replace hX := hid_mk (hX.out.keep (after hb7 (by go_grown)).1); replace hA := hid_mk (hA.out.keep (after hb7 (by go_grown)).1); replace hB := hid_mk (hB.out.keep (after hb7 (by go_grown)).1); replace hC := hid_mk (hC.out.keep (after hb7 (by go_grown)).1); replace IA := hid_mk (Itms.top (IA.out.to (after hb7 (by go_grown)).1)); replace IB := hid_mk (Itms.top (IB.out.to (after hb7 (by go_grown)).1)); replace IC := hid_mk (Itms.top (IC.out.to (after hb7 (by go_grown)).1));  clear hb7 x0 a0 b0 c0 xl al bl cl; have x0 := hX.out.cell 0; have a0 := hA.out.cell 0; have b0 := hB.out.cell 0; have c0 := hC.out.cell 0; have xl := hX.out.lt; have al := hA.out.lt; have bl := hB.out.lt; have cl := hC.out.lt; change _ = some (Value.slice A m cap) at x0; change _ = some (Value.slice A3 na c3) at a0; change _ = some (Value.slice A4 na c4) at b0; change _ = some (Value.slice A5 nc c5) at c0))
    go_wp2
    refine ends_ret hQ (results_tmp rfl _ _ _) rfl ?_
    exact ⟨ret_bool (by simp), q6⟩
theorem LawDrops_walk {w : World} (a0 : Option Addr) (len0 cap0 : Nat) (is0 : List Itm) (i0 : Itms w w.heap.size a0 len0 is0) (lc0 : len0 ≤ cap0) (hs0 : cap0 * 40 ≤ 140737488351232) (s1 : ByteArray) (_hs1 : s1.size ≤ 140737488351232) :
    Calls Try.prog 6 #[.agg #[.slice a0 len0 cap0], .string s1] w fun e w' => e = .returned (.bool true) ∧ Below w.heap.size w w' := LawDrops_any a0 len0 cap0 is0 s1 w i0 lc0 hs0
end Go.Proofs.Ytngaeencnklbdaa
