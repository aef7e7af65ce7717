/-
  WHAT IS PROVED HERE: the law ExtendAdds returns true: what a node makes of a record that it is given, and why it refuses, is what the reference tells. Conditions: the slices are of at most 2^47 elements; the library's table and MaxLen stand.
-/
import Derived.Test.YtncdjmpdbinanaaGreatDoorZGVt
import Derived.Test.YtncdjmpdbinanaaGreatDoorZRad
import Derived.Test.YtncdjmpdbinanaaGreatDoorZEad
import Derived.Test.YtncdjmpdbinanaaGreatDoorZGEt
import Derived.Test.YtncdjmpdbinanaaGreatDoorZLaw18s
namespace Go.Proofs.YtncdjmpdbinanaaGreatDoor
open Go.RowKit

theorem addL_len (N : Nd) (k : Int) (d : ByteArray) : (addL N k d).length ≤ 9 := by
  unfold addL
  split
  · rename_i h
    have hr := (add_base h).1
    have hs := (sure_same (addB N k d)).2.2.2.2.2.2.1
    unfold allM
    rw [List.length_map, hs]
    exact prs_len (right_parts hr).2.2.2.2.2.2.2.2.2
  · simp
set_option maxRecDepth 100000 in
set_option maxHeartbeats 12800000 in
theorem LawAdd_any (N : Nd) (a : NdA) (k : Int) (d : ByteArray) (w : World) (hN : NdOk w w.heap.size N a) (ht : Tab w) (mm : Int) (hm : w.cell? ⟨0, 0, none⟩ = some (.int .i64 mm)) :
    Calls Tryz.prog 5 #[nodeV N a, .int .i64 k, .string d] w fun e w' => e = .returned (.bool true) ∧ Below w.heap.size w w' := by
  have hm2 : Hid (∀ w', Below w.heap.size w w' → w'.cell? ⟨0, 0, none⟩ = some (.int .i64 mm)) := fun w' hb => (hb.cell (p := ⟨0, 0, none⟩) (cell_lt hm)).trans hm
  clear hm
  obtain ⟨z, hz⟩ : ∃ z, smallB N zeroM = z := ⟨_, rfl⟩
  obtain ⟨zr, hzr⟩ : ∃ z, rightN N = z := ⟨_, rfl⟩
  replace hz := hid_mk hz
  replace hzr := hid_mk hzr
  obtain ⟨N1, hN1⟩ : ∃ z, addN N k d = z := ⟨_, rfl⟩
  obtain ⟨L1, hL1⟩ : ∃ z, addL N k d = z := ⟨_, rfl⟩
  obtain ⟨P1, hP1⟩ : ∃ z, addAt N k d = z := ⟨_, rfl⟩
  obtain ⟨E1, hE1⟩ : ∃ z, addE N k d = z := ⟨_, rfl⟩
  have hno : Hid (zr = false → N1 = zeroN ∧ L1 = [] ∧ P1 = 0 ∧ E1 = 1) := fun e => by
    have hr : rightN N = false := hzr.out.trans e
    rw [← hN1, ← hL1, ← hP1, ← hE1]
    exact add_bad ((add_say N k d).1 (by unfold addG; rw [hr]; rfl)) (by decide)
  have hl1 : L1.length ≤ 9 := by rw [← hL1]; exact addL_len N k d
  replace hN1 := hid_mk hN1
  replace hL1 := hid_mk hL1
  replace hP1 := hid_mk hP1
  replace hE1 := hid_mk hE1
  obtain ⟨w0, hw0⟩ : ∃ x, (w.alloc (.cells (ndC N a) 30)) = x := ⟨_, rfl⟩
  have hB : Hid (Bxs w.heap.size w0 [⟨w.heap.size, 30, ndC N a⟩]) := by
    rw [← hw0]
    exact ((Bxs.nil w.heap.size w).add_ rfl (by omega) 30 (ndC N a))
  have q0 : Below w.heap.size w w0 := by rw [← hw0]; go_grown
  have z0 := q0.size
  dsimp only [ndC, msC, zeroN, nilA, zeroM, nilMA] at hw0
  have hSm := fun (w1 : World) (h1 : NdOk w1 w.heap.size N a) => small18_any N a zeroM nilMA w1 h1 (nilMA_ok (B := w.heap.size) rfl rfl rfl)
  have hSI := fun (w1 : World) (h0 : w.heap.size ≤ w1.heap.size) (h1 : NdOk w1 w.heap.size N a) (h3 : Tab w1) (hmm : w1.cell? ⟨0, 0, none⟩ = some (.int .i64 mm)) => EAdd_any N a k d w1 h0 h1 h3 mm hmm
  have hNR := fun (w1 : World) (h1 : NdOk w1 w.heap.size N a) (h3 : Tab w1) => NRight_any N a w1 h1 h3
  have hRI := fun (w1 : World) (hz : rightN N = true) (h0 : w.heap.size ≤ w1.heap.size) (h1 : NdOk w1 w.heap.size N a) (h3 : Tab w1) => RAdd_any N a k d w1 h0 hz h1 h3
  rw [hz.out] at hSm
  rw [hN1.out, hL1.out, hP1.out, hE1.out] at hSI hRI
  rw [hzr.out] at hNR
  unfold nodeV at hSm hSI hNR hRI ⊢
  unfold msgV zeroM nilMA at hSm
  dsimp only at hSm
  refine calls_of_wpQ Tryz.func5 rfl ?_
  intro Q hQ
  simp only [Tryz.ntmps5, List.size_toArray, List.length_cons, List.length_nil, Nat.reduceAdd, Nat.reduceSub, Array.replicate_succ, Array.replicate_zero, List.push_toArray, List.append_toArray, List.nil_append, List.cons_append]
  go_upto_region 1 with fail
  try rw [hw0]
  clear hw0
  have lX := blk14c (hB.out.at_ 0 rfl)
  go_wp2_with fail
  clear lX
  refine (hSm _ (hN.to q0)).mono ?_
  rintro e w1 ⟨rfl, hb1⟩
  have q1 := (after (w := w) hb1 q0).1
  have z1 := q1.size
  replace hB := hid_mk (hB.out.keep hb1)
  clear hb1 q0 z0
  cases z
  case false =>
    go_wp2
    refine ends_ret hQ (results_tmp rfl _ _ _) rfl ?_
    exact ⟨rfl, q1⟩
  have lX := blk14c (hB.out.at_ 0 rfl)
  go_wp2_with fail
  clear lX
  refine (hSI _ (by omega) (hN.to q1) (ht.to q1) (hm2.out _ q1)).mono ?_
  rintro e w2 ⟨a1, A1, n1, c1, pm1, rfl, hok1, hM1, hp1, hc1, hb1⟩
  have q2 := (after (w := w) hb1 q1).1
  have z2 := q2.size
  replace hB := hid_mk (hB.out.keep hb1)
  clear hb1 q1 z1
  have hn1 : n1 ≤ 9 := by
    have h := hM1.len
    have h2 := congrArg List.length hp1
    rw [List.length_map] at h2
    omega
  replace hp1 := hid_mk hp1
  replace hok1 := hid_mk hok1
  replace hM1 := hid_mk hM1
  unfold nodeV
  have lX := blk14c (hB.out.at_ 0 rfl)
  obtain ⟨gA, hgA⟩ : ∃ g, w2.heap.size = g := ⟨_, rfl⟩
  have lgA : w.heap.size ≤ gA := by rw [← hgA]; exact q2.size
  replace hB := hid_mk (hB.out.add_ hgA lgA 30 (ndC N1 a1))
  replace hok1 := hid_mk (hok1.out.to ((Below.refl _ w2).alloc (Nat.le_refl _) (.cells (ndC N1 a1) 30)))
  replace hM1 := hid_mk (hM1.out.to ((Below.refl _ w2).alloc (Nat.le_refl _) (.cells (ndC N1 a1) 30)))
  have q3 := q2.alloc q2.size (.cells (ndC N1 a1) 30)
  obtain ⟨w3, hw3⟩ : ∃ x, w2.alloc (.cells (ndC N1 a1) 30) = x := ⟨_, rfl⟩
  rw [hw3] at hB hok1 hM1 q3
  try unfold ndC at hw3
  replace hw3 := hid_mk hw3
  replace hgA := hid_mk hgA
  go_upto_region 4 with fail
  try rw [hw3.out]
  try rw [hgA.out]
  clear lX hw3 hgA q2 z2
  have z3 := q3.size
  have lX := blk14c (hB.out.at_ 1 rfl)
  go_wp2_with fail
  clear lX
  refine (hNR _ (hN.to q3) (ht.to q3)).mono ?_
  rintro e w4 ⟨rfl, hb1⟩
  have q4 := (after (w := w) hb1 q3).1
  have z4 := q4.size
  replace hB := hid_mk (hB.out.keep hb1)
  replace hok1 := hid_mk (hok1.out.to hb1)
  replace hM1 := hid_mk (hM1.out.to hb1)
  clear hb1 q3 z3
  cases zr
  case false =>
    obtain ⟨e1, e2, e3, e4⟩ := hno.out rfl
    subst e1 e2 e3 e4
    have hn0 : n1 = 0 := by
      have h := hM1.out.len
      have h2 := congrArg List.length hp1.out
      rw [List.length_map] at h2
      simp only [List.length_nil] at h2
      omega
    subst hn0
    have lX := blk14c (hB.out.at_ 1 rfl)
    have lA := blk14c (hB.out.at_ 0 rfl)
    go_wp2_with fail
    clear lX lA
    refine (alive18_any _ (ht.to q4) mm (hm2.out _ q4)).mono ?_
    rintro e w5 ⟨rfl, hb1⟩
    have q5 := (after (w := w) hb1 q4).1
    have z5 := q5.size
    replace hB := hid_mk (hB.out.keep hb1)
    replace hok1 := hid_mk (hok1.out.to hb1)
    replace hM1 := hid_mk (hM1.out.to hb1)
    clear hb1 q4 z4
    have hLk := fun (w1 : World) (h : NdOk w1 w.heap.size zeroN a1) => NLike_same zeroN a1 nilA w1 (B := w.heap.size) (B' := w.heap.size) h zero_ok
    unfold nodeV nilA zeroN at hLk
    dsimp only at hLk
    have lX := blk14c (hB.out.at_ 1 rfl)
    have lA := blk14c (hB.out.at_ 0 rfl)
    go_wp2_with fail
    clear lX lA
    refine (hLk _ hok1.out).mono ?_
    skip
    rintro e w6 ⟨rfl, hb1⟩
    have q6 := (after (w := w) hb1 q5).1
    have z6 := q6.size
    replace hB := hid_mk (hB.out.keep hb1)
    replace hok1 := hid_mk (hok1.out.to hb1)
    replace hM1 := hid_mk (hM1.out.to hb1)
    clear hb1 q5 z5
    have lX := blk14c (hB.out.at_ 1 rfl)
    have lA := blk14c (hB.out.at_ 0 rfl)
    go_wp2
    refine ends_ret hQ (results_tmp rfl _ _ _) rfl ?_
    exact ⟨rfl, q6⟩
  have lX := blk14c (hB.out.at_ 1 rfl)
  have lA := blk14c (hB.out.at_ 0 rfl)
  go_wp2_with fail
  clear lX lA
  refine (hRI _ hzr.out (by omega) (hN.to q4) (ht.to q4)).mono ?_
  rintro e w5 ⟨a3, A3, n3, c3, pm3, rfl, hok3, hM3, hp3, hc3, hb1⟩
  have q5 := (after (w := w) hb1 q4).1
  have z5 := q5.size
  replace hB := hid_mk (hB.out.keep hb1)
  replace hok1 := hid_mk (hok1.out.to hb1)
  replace hM1 := hid_mk (hM1.out.to hb1)
  clear hb1 q4 z4
  replace hok3 := hid_mk hok3
  replace hp3 := hid_mk hp3
  replace hM3 := hid_mk hM3
  unfold nodeV
  have lX := blk14c (hB.out.at_ 1 rfl)
  have lA := blk14c (hB.out.at_ 0 rfl)
  obtain ⟨gD, hgD⟩ : ∃ g, w5.heap.size = g := ⟨_, rfl⟩
  have lgD : w.heap.size ≤ gD := by rw [← hgD]; exact q5.size
  replace hB := hid_mk (hB.out.add_ hgD lgD 30 (ndC N1 a3))
  replace hok1 := hid_mk (hok1.out.to ((Below.refl _ w5).alloc (Nat.le_refl _) (.cells (ndC N1 a3) 30)))
  replace hM1 := hid_mk (hM1.out.to ((Below.refl _ w5).alloc (Nat.le_refl _) (.cells (ndC N1 a3) 30)))
  replace hok3 := hid_mk (hok3.out.to ((Below.refl _ w5).alloc (Nat.le_refl _) (.cells (ndC N1 a3) 30)))
  replace hM3 := hid_mk (hM3.out.to ((Below.refl _ w5).alloc (Nat.le_refl _) (.cells (ndC N1 a3) 30)))
  have q6 := q5.alloc q5.size (.cells (ndC N1 a3) 30)
  obtain ⟨w6, hw6⟩ : ∃ x, w5.alloc (.cells (ndC N1 a3) 30) = x := ⟨_, rfl⟩
  rw [hw6] at hB hok1 hM1 hok3 hM3 q6
  try unfold ndC at hw6
  replace hw6 := hid_mk hw6
  replace hgD := hid_mk hgD
  go_upto_region 7 with fail
  try rw [hw6.out]
  try rw [hgD.out]
  clear lX lA hw6 hgD q5 z5
  have z6 := q6.size
  have lA := blk14c (hB.out.at_ 1 rfl)
  have lD := blk14c (hB.out.at_ 0 rfl)
  go_wp2_with fail
  clear lA lD
  refine (alive18_any _ (ht.to q6) mm (hm2.out _ q6)).mono ?_
  rintro e w7 ⟨rfl, hb1⟩
  have q7 := (after (w := w) hb1 q6).1
  have z7 := q7.size
  replace hB := hid_mk (hB.out.keep hb1)
  replace hok1 := hid_mk (hok1.out.to hb1)
  replace hM1 := hid_mk (hM1.out.to hb1)
  replace hok3 := hid_mk (hok3.out.to hb1)
  replace hM3 := hid_mk (hM3.out.to hb1)
  clear hb1 q6 z6
  have lA := blk14c (hB.out.at_ 1 rfl)
  have lD := blk14c (hB.out.at_ 0 rfl)
  go_wp2_with fail
  clear lA lD
  refine (NLike_same N1 a1 a3 _ (B := w.heap.size) (B' := w.heap.size) hok1.out hok3.out).mono ?_
  rintro e w8 ⟨rfl, hb1⟩
  have q8 := (after (w := w) hb1 q7).1
  have z8 := q8.size
  replace hB := hid_mk (hB.out.keep hb1)
  replace hok1 := hid_mk (hok1.out.to hb1)
  replace hM1 := hid_mk (hM1.out.to hb1)
  replace hok3 := hid_mk (hok3.out.to hb1)
  replace hM3 := hid_mk (hM3.out.to hb1)
  clear hb1 q7 z7
  have lA := blk14c (hB.out.at_ 1 rfl)
  have lD := blk14c (hB.out.at_ 0 rfl)
  go_wp2_with fail
  clear lA lD
  refine (LikeMsg_same A1 n1 c1 A3 n3 c3 _ _ _ (B := w.heap.size) (B' := w.heap.size) (by omega) hM1.out hM3.out (by rw [hp1.out, hp3.out])).mono ?_
  rintro e w9 ⟨rfl, hb1⟩
  have q9 := (after (w := w) hb1 q8).1
  have z9 := q9.size
  replace hB := hid_mk (hB.out.keep hb1)
  replace hok1 := hid_mk (hok1.out.to hb1)
  replace hM1 := hid_mk (hM1.out.to hb1)
  replace hok3 := hid_mk (hok3.out.to hb1)
  replace hM3 := hid_mk (hM3.out.to hb1)
  clear hb1 q8 z8
  have lA := blk14c (hB.out.at_ 1 rfl)
  have lD := blk14c (hB.out.at_ 0 rfl)
  go_wp2
  refine ends_ret hQ (results_tmp rfl _ _ _) rfl ?_
  exact ⟨rfl, q9⟩
theorem LawAdd_walk {w : World} (ht : Tab w) (mm : Int) (hm : w.cell? ⟨0, 0, none⟩ = some (.int .i64 mm)) (N : Nd) (a : NdA) (hN : NdOk w w.heap.size N a) (k : Int) (_ : -9223372036854775808 ≤ k) (_ : k ≤ 9223372036854775807) (d : ByteArray) (_ : d.size ≤ 140737488351232) :
    Calls Tryz.prog 5 #[nodeV N a, .int .i64 k, .string d] w fun e w' => e = .returned (.bool true) ∧ Below w.heap.size w w' := LawAdd_any N a k d w hN ht mm hm
end Go.Proofs.YtncdjmpdbinanaaGreatDoor
