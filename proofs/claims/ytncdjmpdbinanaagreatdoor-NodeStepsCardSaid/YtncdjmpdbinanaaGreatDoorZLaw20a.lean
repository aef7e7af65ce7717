/-
  WHAT IS PROVED HERE: the law NodeSteps returns true: what a server is when it begins, and behind a tick, and what it sends, is what the reference tells. Conditions: the slices are of at most 2^47 elements; the library's table and MaxLen stand.
-/
import Derived.Test.YtncdjmpdbinanaaGreatDoorZGVt
import Derived.Test.YtncdjmpdbinanaaGreatDoorZRtc
import Derived.Test.YtncdjmpdbinanaaGreatDoorZGKep
import Derived.Test.YtncdjmpdbinanaaGreatDoorZLaw20s
namespace Go.Proofs.YtncdjmpdbinanaaGreatDoor
open Go.RowKit

theorem tick_len (N : Nd) (d : Int) : (tickL N d).length ≤ 20 := by
  cases hr : rightN N with
  | false => rw [((tick_say N d).1 hr).2.1]; simp
  | true =>
    obtain ⟨_, h2, h3, h4, h5⟩ := (tick_say N d).2 hr
    by_cases g1 : 1 < N.timer
    · rw [(h2 g1).2]; simp
    by_cases g2 : N.role = 2
    · rw [(h3 g1 g2).2]
      unfold allM
      rw [List.length_map]
      have := prs_len (right_parts hr).2.2.2.2.2.2.2.2.2
      show N.ps.length ≤ 20
      omega
    cases hw : standW N with
    | false =>
      rw [(h4 g1 g2 hw).2]
      have := stand_len hr
      omega
    | true =>
      rw [(h5 g1 g2 hw).2]
      unfold leadL
      split
      · rename_i hc
        unfold leadC at hc
        simp only [Bool.and_eq_true, beq_iff_eq] at hc
        have := leadl_len hc.1
        unfold leadL at this
        rw [if_pos (by unfold leadC; rw [hc.1, hc.2]; rfl)] at this
        omega
      · simp
set_option maxRecDepth 100000 in
set_option maxHeartbeats 12800000 in
theorem LawSteps_any (N : Nd) (a : NdA) (d : Int) (w : World) (hN : NdOk w w.heap.size N a) (ht : Tab w) (mm : Int) (hm : w.cell? ⟨0, 0, none⟩ = some (.int .i64 mm)) :
    Calls Tryz.prog 10 #[nodeV N a, .int .i64 d] w fun e w' => e = .returned (.bool true) ∧ Below w.heap.size w w' := by
  have hm2 : Hid (∀ w', Below w.heap.size w w' → w'.cell? ⟨0, 0, none⟩ = some (.int .i64 mm)) := fun w' hb => (hb.cell (p := ⟨0, 0, none⟩) (cell_lt hm)).trans hm
  clear hm
  obtain ⟨z, hz⟩ : ∃ z, smallB20 N zeroM = z := ⟨_, rfl⟩
  obtain ⟨N1, hN1⟩ : ∃ z, (begR N.id N.h d).1 = z := ⟨_, rfl⟩
  obtain ⟨E1, hE1⟩ : ∃ z, (begR N.id N.h d).2 = z := ⟨_, rfl⟩
  obtain ⟨N2, hN2⟩ : ∃ z, tickN N d = z := ⟨_, rfl⟩
  obtain ⟨L2, hL2⟩ : ∃ z, tickL N d = z := ⟨_, rfl⟩
  obtain ⟨E2, hE2⟩ : ∃ z, tickE N = z := ⟨_, rfl⟩
  have hl2 : L2.length ≤ 20 := by rw [← hL2]; exact tick_len N d
  have hbg : ∀ w1, NdOk w1 w.heap.size N a → NdOk w1 w.heap.size (begN N.id N.h d) ⟨a.R, a.V, ⟨none, 0, 0⟩, ⟨none, 0, 0⟩⟩ := fun w1 h => ⟨h.recs, h.rc, h.rb, h.vs, h.vc, h.vb, h.sb, Reads.none_, Nat.le_refl _, by dsimp only; omega, Reads.none_, Nat.le_refl _, by dsimp only; omega⟩
  have hSm := fun (w1 : World) (h1 : NdOk w1 w.heap.size N a) => small20_any N a zeroM nilMA w1 h1 (nilMA_ok (B := w.heap.size) rfl rfl rfl)
  have hC1 := fun (w1 : World) (h1 : NdOk w1 w.heap.size N a) (h3 : Tab w1) => NBegin_any N.id N.h a.R a.V d w1 (hbg w1 h1) h3
  have hC2 := fun (w1 : World) (h1 : NdOk w1 w.heap.size N a) (h3 : Tab w1) => RBegin_any N.id N.h a.R a.V d w1 (hbg w1 h1) h3
  have hC3 := fun (w1 : World) (h0 : w.heap.size ≤ w1.heap.size) (h1 : NdOk w1 w.heap.size N a) (h3 : Tab w1) (hmm : w1.cell? ⟨0, 0, none⟩ = some (.int .i64 mm)) => NTick_any N a d w1 h0 h1 h3 mm hmm
  have hC4 := fun (w1 : World) (hs : smallB N zeroM = true) (h0 : w.heap.size ≤ w1.heap.size) (h1 : NdOk w1 w.heap.size N a) (h3 : Tab w1) => RTick_any N a zeroM d w1 h0 h1 hs h3
  rw [hz] at hSm
  unfold RetNE at hC1 hC2
  rw [hN1, hE1] at hC1 hC2
  rw [hN2, hL2, hE2] at hC3 hC4
  replace hz := hid_mk hz
  clear hN1 hE1 hN2 hL2 hE2 hbg
  unfold nodeV at hSm hC1 hC2 hC3 hC4 ⊢
  unfold hdV at hC1 hC2
  unfold msgV zeroM nilMA at hSm
  dsimp only at hSm
  obtain ⟨w0, hw0⟩ : ∃ x, (w.alloc (.cells (ndC N a) 30)) = x := ⟨_, rfl⟩
  have hB : Hid (Bxs w.heap.size w0 [⟨w.heap.size, 30, ndC N a⟩]) := by
    rw [← hw0]
    exact ((Bxs.nil w.heap.size w).add_ rfl (by omega) 30 (ndC N a))
  have q0 : Below w.heap.size w w0 := by rw [← hw0]; go_grown
  have z0 := q0.size
  dsimp only [ndC, msC, zeroN, nilA, zeroM, nilMA] at hw0
  refine calls_of_wpQ Tryz.func10 rfl ?_
  intro Q hQ
  simp only [Tryz.ntmps10, List.size_toArray, List.length_cons, List.length_nil, Nat.reduceAdd, Nat.reduceSub, Array.replicate_succ, Array.replicate_zero, List.push_toArray, List.append_toArray, List.nil_append, List.cons_append]
  go_upto_region 1 with fail
  try rw [hw0]
  clear hw0
  have lX := blk14c (hB.out.at_ 0 rfl)
  go_wp2_with fail
  clear lX
  refine (hSm _ (hN.to q0)).mono ?_
  rintro e w1 ⟨rfl, hb1⟩
  have q1 := (after (w := w) hb1 q0).1
  have z1 := q1.size
  replace hB := hid_mk (hB.out.keep hb1)
  clear hb1 q0 z0
  cases z
  case false =>
    go_wp2
    refine ends_ret hQ (results_tmp rfl _ _ _) rfl ?_
    exact ⟨rfl, q1⟩
  have hs0 := hid_mk (small20_zero hN.sb (by first | exact hz.out | rfl))
  clear hSm
  have lX := blk14c (hB.out.at_ 0 rfl)
  go_wp2_with fail
  clear lX
  refine (hC1 _ (hN.to q1) (ht.to q1)).mono ?_
  rintro e w2 ⟨a1, rfl, hok1, hb1⟩
  have q2 := (after (w := w) hb1 q1).1
  have z2 := q2.size
  replace hB := hid_mk (hB.out.keep hb1)
  clear hb1 q1 z1
  replace hok1 := hid_mk hok1
  have lX := blk14c (hB.out.at_ 0 rfl)
  obtain ⟨gA, hgA⟩ : ∃ g, w2.heap.size = g := ⟨_, rfl⟩
  have lgA : w.heap.size ≤ gA := by rw [← hgA]; exact q2.size
  replace hB := hid_mk (hB.out.add_ hgA lgA 30 (ndC N1 a1))
  replace hok1 := hid_mk (hok1.out.to ((Below.refl _ w2).alloc (Nat.le_refl _) (.cells (ndC N1 a1) 30)))
  have q3 := q2.alloc q2.size (.cells (ndC N1 a1) 30)
  obtain ⟨w3, hw3⟩ : ∃ x, w2.alloc (.cells (ndC N1 a1) 30) = x := ⟨_, rfl⟩
  rw [hw3] at hB hok1  q3
  try unfold ndC at hw3
  replace hw3 := hid_mk hw3
  replace hgA := hid_mk hgA
  go_upto_region 4 with fail
  try rw [hw3.out]
  try rw [hgA.out]
  clear lX hw3 hgA q2 z2
  have z3 := q3.size
  have lX := blk14c (hB.out.at_ 1 rfl)
  go_wp2_with fail
  clear lX
  refine (hC2 _ (hN.to q3) (ht.to q3)).mono ?_
  rintro e w4 ⟨a2, rfl, hok2, hb1⟩
  have q4 := (after (w := w) hb1 q3).1
  have z4 := q4.size
  replace hB := hid_mk (hB.out.keep hb1)
  replace hok1 := hid_mk (hok1.out.to hb1)
  clear hb1 q3 z3
  replace hok2 := hid_mk hok2
  have lX := blk14c (hB.out.at_ 1 rfl)
  obtain ⟨gD, hgD⟩ : ∃ g, w4.heap.size = g := ⟨_, rfl⟩
  have lgD : w.heap.size ≤ gD := by rw [← hgD]; exact q4.size
  replace hB := hid_mk (hB.out.add_ hgD lgD 30 (ndC N1 a2))
  replace hok1 := hid_mk (hok1.out.to ((Below.refl _ w4).alloc (Nat.le_refl _) (.cells (ndC N1 a2) 30)))
  replace hok2 := hid_mk (hok2.out.to ((Below.refl _ w4).alloc (Nat.le_refl _) (.cells (ndC N1 a2) 30)))
  have q5 := q4.alloc q4.size (.cells (ndC N1 a2) 30)
  obtain ⟨w5, hw5⟩ : ∃ x, w4.alloc (.cells (ndC N1 a2) 30) = x := ⟨_, rfl⟩
  rw [hw5] at hB hok1 hok2  q5
  try unfold ndC at hw5
  replace hw5 := hid_mk hw5
  replace hgD := hid_mk hgD
  go_upto_region 5 with fail
  try rw [hw5.out]
  try rw [hgD.out]
  clear lX hw5 hgD q4 z4
  have z5 := q5.size
  have lX := blk14c (hB.out.at_ 2 rfl)
  go_wp2_with fail
  clear lX
  refine (hC3 _ (by omega) (hN.to q5) (ht.to q5) (hm2.out _ q5)).mono ?_
  rintro e w6 ⟨a3, A3, n3, c3, pm3, rfl, hok3, hM3, hp3, hc3, hb1⟩
  have q6 := (after (w := w) hb1 q5).1
  have z6 := q6.size
  replace hB := hid_mk (hB.out.keep hb1)
  replace hok1 := hid_mk (hok1.out.to hb1)
  replace hok2 := hid_mk (hok2.out.to hb1)
  clear hb1 q5 z5
  have hn3 : n3 ≤ 20 := by
    have h := hM3.len
    have h2 := congrArg List.length hp3
    rw [List.length_map] at h2
    omega
  replace hp3 := hid_mk hp3
  replace hok3 := hid_mk hok3
  replace hM3 := hid_mk hM3
  unfold nodeV
  have lX := blk14c (hB.out.at_ 2 rfl)
  obtain ⟨gE, hgE⟩ : ∃ g, w6.heap.size = g := ⟨_, rfl⟩
  have lgE : w.heap.size ≤ gE := by rw [← hgE]; exact q6.size
  replace hB := hid_mk (hB.out.add_ hgE lgE 30 (ndC N2 a3))
  replace hok1 := hid_mk (hok1.out.to ((Below.refl _ w6).alloc (Nat.le_refl _) (.cells (ndC N2 a3) 30)))
  replace hok2 := hid_mk (hok2.out.to ((Below.refl _ w6).alloc (Nat.le_refl _) (.cells (ndC N2 a3) 30)))
  replace hok3 := hid_mk (hok3.out.to ((Below.refl _ w6).alloc (Nat.le_refl _) (.cells (ndC N2 a3) 30)))
  replace hM3 := hid_mk (hM3.out.to ((Below.refl _ w6).alloc (Nat.le_refl _) (.cells (ndC N2 a3) 30)))
  have q7 := q6.alloc q6.size (.cells (ndC N2 a3) 30)
  obtain ⟨w7, hw7⟩ : ∃ x, w6.alloc (.cells (ndC N2 a3) 30) = x := ⟨_, rfl⟩
  rw [hw7] at hB hok1 hok2 hok3 hM3  q7
  try unfold ndC at hw7
  replace hw7 := hid_mk hw7
  replace hgE := hid_mk hgE
  go_upto_region 6 with fail
  try rw [hw7.out]
  try rw [hgE.out]
  clear lX hw7 hgE q6 z6
  have z7 := q7.size
  have lX := blk14c (hB.out.at_ 3 rfl)
  go_wp2_with fail
  clear lX
  refine (hC4 _ hs0.out (by omega) (hN.to q7) (ht.to q7)).mono ?_
  rintro e w8 ⟨a4, A4, n4, c4, pm4, rfl, hok4, hM4, hp4, hc4, hb1⟩
  have q8 := (after (w := w) hb1 q7).1
  have z8 := q8.size
  replace hB := hid_mk (hB.out.keep hb1)
  replace hok1 := hid_mk (hok1.out.to hb1)
  replace hok2 := hid_mk (hok2.out.to hb1)
  replace hok3 := hid_mk (hok3.out.to hb1)
  replace hM3 := hid_mk (hM3.out.to hb1)
  clear hb1 q7 z7
  replace hp4 := hid_mk hp4
  replace hok4 := hid_mk hok4
  replace hM4 := hid_mk hM4
  unfold nodeV
  have lX := blk14c (hB.out.at_ 3 rfl)
  obtain ⟨gF, hgF⟩ : ∃ g, w8.heap.size = g := ⟨_, rfl⟩
  have lgF : w.heap.size ≤ gF := by rw [← hgF]; exact q8.size
  replace hB := hid_mk (hB.out.add_ hgF lgF 30 (ndC N2 a4))
  replace hok1 := hid_mk (hok1.out.to ((Below.refl _ w8).alloc (Nat.le_refl _) (.cells (ndC N2 a4) 30)))
  replace hok2 := hid_mk (hok2.out.to ((Below.refl _ w8).alloc (Nat.le_refl _) (.cells (ndC N2 a4) 30)))
  replace hok3 := hid_mk (hok3.out.to ((Below.refl _ w8).alloc (Nat.le_refl _) (.cells (ndC N2 a4) 30)))
  replace hM3 := hid_mk (hM3.out.to ((Below.refl _ w8).alloc (Nat.le_refl _) (.cells (ndC N2 a4) 30)))
  replace hok4 := hid_mk (hok4.out.to ((Below.refl _ w8).alloc (Nat.le_refl _) (.cells (ndC N2 a4) 30)))
  replace hM4 := hid_mk (hM4.out.to ((Below.refl _ w8).alloc (Nat.le_refl _) (.cells (ndC N2 a4) 30)))
  have q9 := q8.alloc q8.size (.cells (ndC N2 a4) 30)
  obtain ⟨w9, hw9⟩ : ∃ x, w8.alloc (.cells (ndC N2 a4) 30) = x := ⟨_, rfl⟩
  rw [hw9] at hB hok1 hok2 hok3 hM3 hok4 hM4  q9
  try unfold ndC at hw9
  replace hw9 := hid_mk hw9
  replace hgF := hid_mk hgF
  go_upto_region 7 with fail
  try rw [hw9.out]
  try rw [hgF.out]
  clear lX hw9 hgF q8 z8
  have z9 := q9.size
  have lA := blk14c (hB.out.at_ 3 rfl)
  have lD := blk14c (hB.out.at_ 2 rfl)
  go_wp2_with fail
  clear lA lD
  refine (alive20_any _ (ht.to q9) mm (hm2.out _ q9)).mono ?_
  rintro e w10 ⟨rfl, hb1⟩
  have q10 := (after (w := w) hb1 q9).1
  have z10 := q10.size
  replace hB := hid_mk (hB.out.keep hb1)
  replace hok1 := hid_mk (hok1.out.to hb1)
  replace hok2 := hid_mk (hok2.out.to hb1)
  replace hok3 := hid_mk (hok3.out.to hb1)
  replace hM3 := hid_mk (hM3.out.to hb1)
  replace hok4 := hid_mk (hok4.out.to hb1)
  replace hM4 := hid_mk (hM4.out.to hb1)
  clear hb1 q9 z9
  have lA := blk14c (hB.out.at_ 3 rfl)
  have lD := blk14c (hB.out.at_ 2 rfl)
  have lE := blk14c (hB.out.at_ 1 rfl)
  have lF := blk14c (hB.out.at_ 0 rfl)
  go_wp2_with fail
  clear lA lD lE lF
  refine (NLike_same N1 a1 a2 _ (B := w.heap.size) (B' := w.heap.size) hok1.out hok2.out).mono ?_
  rintro e w11 ⟨rfl, hb1⟩
  have q11 := (after (w := w) hb1 q10).1
  have z11 := q11.size
  replace hB := hid_mk (hB.out.keep hb1)
  replace hok1 := hid_mk (hok1.out.to hb1)
  replace hok2 := hid_mk (hok2.out.to hb1)
  replace hok3 := hid_mk (hok3.out.to hb1)
  replace hM3 := hid_mk (hM3.out.to hb1)
  replace hok4 := hid_mk (hok4.out.to hb1)
  replace hM4 := hid_mk (hM4.out.to hb1)
  clear hb1 q10 z10
  have lA := blk14c (hB.out.at_ 3 rfl)
  have lD := blk14c (hB.out.at_ 2 rfl)
  have lE := blk14c (hB.out.at_ 1 rfl)
  have lF := blk14c (hB.out.at_ 0 rfl)
  go_wp2_with fail
  clear lA lD lE lF
  refine (NLike_same N2 a3 a4 _ (B := w.heap.size) (B' := w.heap.size) hok3.out hok4.out).mono ?_
  rintro e w12 ⟨rfl, hb1⟩
  have q12 := (after (w := w) hb1 q11).1
  have z12 := q12.size
  replace hB := hid_mk (hB.out.keep hb1)
  replace hok1 := hid_mk (hok1.out.to hb1)
  replace hok2 := hid_mk (hok2.out.to hb1)
  replace hok3 := hid_mk (hok3.out.to hb1)
  replace hM3 := hid_mk (hM3.out.to hb1)
  replace hok4 := hid_mk (hok4.out.to hb1)
  replace hM4 := hid_mk (hM4.out.to hb1)
  clear hb1 q11 z11
  have lA := blk14c (hB.out.at_ 3 rfl)
  have lD := blk14c (hB.out.at_ 2 rfl)
  have lE := blk14c (hB.out.at_ 1 rfl)
  have lF := blk14c (hB.out.at_ 0 rfl)
  go_wp2_with fail
  clear lA lD lE lF
  refine (LikeMsg_same A3 n3 c3 A4 n4 c4 _ _ _ (B := w.heap.size) (B' := w.heap.size) (by omega) hM3.out hM4.out (by rw [hp3.out, hp4.out])).mono ?_
  rintro e w13 ⟨rfl, hb1⟩
  have q13 := (after (w := w) hb1 q12).1
  have z13 := q13.size
  replace hB := hid_mk (hB.out.keep hb1)
  replace hok1 := hid_mk (hok1.out.to hb1)
  replace hok2 := hid_mk (hok2.out.to hb1)
  replace hok3 := hid_mk (hok3.out.to hb1)
  replace hM3 := hid_mk (hM3.out.to hb1)
  replace hok4 := hid_mk (hok4.out.to hb1)
  replace hM4 := hid_mk (hM4.out.to hb1)
  clear hb1 q12 z12
  have lA := blk14c (hB.out.at_ 3 rfl)
  have lD := blk14c (hB.out.at_ 2 rfl)
  go_wp2
  refine ends_ret hQ (results_tmp rfl _ _ _) rfl ?_
  exact ⟨rfl, q13⟩
theorem LawSteps_walk {w : World} (ht : Tab w) (mm : Int) (hm : w.cell? ⟨0, 0, none⟩ = some (.int .i64 mm)) (N : Nd) (a : NdA) (hN : NdOk w w.heap.size N a) (d : Int) (_ : -9223372036854775808 ≤ d) (_ : d ≤ 9223372036854775807) :
    Calls Tryz.prog 10 #[nodeV N a, .int .i64 d] w fun e w' => e = .returned (.bool true) ∧ Below w.heap.size w w' := LawSteps_any N a d w hN ht mm hm
end Go.Proofs.YtncdjmpdbinanaaGreatDoor
