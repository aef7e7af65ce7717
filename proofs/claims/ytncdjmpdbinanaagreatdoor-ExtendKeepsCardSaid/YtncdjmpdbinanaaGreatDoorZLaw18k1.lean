/-
  WHAT IS PROVED HERE: the law ExtendKeeps returns true: a node that may be may be behind anything that it does. Conditions: the slices are of at most 2^47 bytes; the library's table and MaxLen stand.
-/
import Derived.Test.YtncdjmpdbinanaaGreatDoorZLaw18k0
namespace Go.Proofs.YtncdjmpdbinanaaGreatDoor
open Go.RowKit

set_option maxRecDepth 100000 in
set_option maxHeartbeats 12800000 in
theorem LawKeeps1_any (N : Nd) (a : NdA) (M : Ms) (b : MsA) (k : Int) (d : ByteArray) (dr : Int) (w : World) (hN : NdOk w w.heap.size N a) (hM : MsOk w w.heap.size M b) (ht : Tab w) (mm : Int) (hm : w.cell? ⟨0, 0, none⟩ = some (.int .i64 mm)) (hK : ¬ addE N k d = 0) :
    Calls Tryz.prog 9 #[nodeV N a, msgV M b, .int .i64 k, .string d, .int .i64 dr] w fun e w' => e = .returned (.bool true) ∧ Below w.heap.size w w' := by
  have hm2 : Hid (∀ w', Below w.heap.size w w' → w'.cell? ⟨0, 0, none⟩ = some (.int .i64 mm)) := fun w' hb => (hb.cell (p := ⟨0, 0, none⟩) (cell_lt hm)).trans hm
  clear hm
  obtain ⟨z, hz⟩ : ∃ z, smallB N M = z := ⟨_, rfl⟩
  obtain ⟨zr, hzr⟩ : ∃ z, rightN N = z := ⟨_, rfl⟩
  obtain ⟨N1, hN1⟩ : ∃ z, leadN N = z := ⟨_, rfl⟩
  obtain ⟨L1, hL1⟩ : ∃ z, leadL N = z := ⟨_, rfl⟩
  obtain ⟨N2, hN2⟩ : ∃ z, takeN N M dr = z := ⟨_, rfl⟩
  obtain ⟨L2, hL2⟩ : ∃ z, takeL N M = z := ⟨_, rfl⟩
  obtain ⟨N3, hN3⟩ : ∃ z, fitN N M = z := ⟨_, rfl⟩
  obtain ⟨L3, hL3⟩ : ∃ z, fitL N M = z := ⟨_, rfl⟩
  obtain ⟨N4, hN4⟩ : ∃ z, addN N k d = z := ⟨_, rfl⟩
  obtain ⟨L4, hL4⟩ : ∃ z, addL N k d = z := ⟨_, rfl⟩
  obtain ⟨P4, hP4⟩ : ∃ z, addAt N k d = z := ⟨_, rfl⟩
  obtain ⟨E4, hE4⟩ : ∃ z, addE N k d = z := ⟨_, rfl⟩
  have hSm := fun (w1 : World) (h1 : NdOk w1 w.heap.size N a) (h2 : MsOk w1 w.heap.size M b) => small18_any N a M b w1 h1 h2
  have hNR := fun (w1 : World) (h1 : NdOk w1 w.heap.size N a) (h3 : Tab w1) => ERight_any N a w1 h1 h3
  have hC1 := fun (w1 : World) (h0 : w.heap.size ≤ w1.heap.size) (h1 : NdOk w1 w.heap.size N a) (h3 : Tab w1) (hmm : w1.cell? ⟨0, 0, none⟩ = some (.int .i64 mm)) => ELead_any N a w1 h0 h1 h3 mm hmm
  have hC2 := fun (w1 : World) (h0 : w.heap.size ≤ w1.heap.size) (h1 : NdOk w1 w.heap.size N a) (h2 : MsOk w1 w.heap.size M b) (h3 : Tab w1) => ETake_any N a M b dr w1 h0 h1 h2 h3
  have hC3 := fun (w1 : World) (h0 : w.heap.size ≤ w1.heap.size) (h1 : NdOk w1 w.heap.size N a) (h2 : MsOk w1 w.heap.size M b) (h3 : Tab w1) (hmm : w1.cell? ⟨0, 0, none⟩ = some (.int .i64 mm)) => EFit_any N a M b w1 h0 h1 h2 h3 mm hmm
  have hC4 := fun (w1 : World) (h0 : w.heap.size ≤ w1.heap.size) (h1 : NdOk w1 w.heap.size N a) (h3 : Tab w1) (hmm : w1.cell? ⟨0, 0, none⟩ = some (.int .i64 mm)) => EAdd_any N a k d w1 h0 h1 h3 mm hmm
  rw [hz] at hSm
  rw [hzr] at hNR
  rw [hN1, hL1] at hC1
  rw [hN2, hL2] at hC2
  rw [hN3, hL3] at hC3
  rw [hN4, hL4, hP4, hE4] at hC4
  rw [hE4] at hK
  -- the plain law
  have hpl : Hid (zr = true → (Kept N N1 ∧ (N.role = 2 → Holds N N1)) ∧ (Kept N N2 ∧ (N.role = 2 → Holds N N2)) ∧ (Kept N N3 ∧ (N.role = 2 → Holds N N3)) ∧ (E4 = 0 → (Kept N N4 ∧ (N.role = 2 → Holds N N4)) ∧ lastJ N4.h.l = P4) ∧
      (∀ x ∈ L1 ++ L2 ++ L3, mayM x = true ∧ x.fr = N.id ∧ x.term = N.h.t) ∧ (E4 = 0 → ∀ x ∈ L4, mayM x = true ∧ x.fr = N.id ∧ x.term = N.h.t)) := fun e => by
    have hr : rightN N = true := hzr.trans e
    have h1 := lead_keeps hr
    have h2 := take_keeps M dr hr
    have h3 := fit_keeps M hr
    rw [hN1, hL1] at h1
    rw [hN2] at h2
    rw [hN3, hL3] at h3
    refine ⟨⟨h1.1, fun _ => h1.2.1⟩, h2, ⟨h3.1, fun _ => h3.2.1⟩, fun e4 => ?_, fun x hx => ?_, fun e4 => ?_⟩
    · have h4 := add_keeps (N := N) (k := k) (d := d) (hE4.trans e4)
      rw [hN4, hP4] at h4
      exact ⟨⟨h4.1, fun _ => h4.2.1⟩, h4.2.2.1⟩
    · rcases List.mem_append.1 hx with hx | hx
      · rcases List.mem_append.1 hx with hx | hx
        · exact h1.2.2 x hx
        · rw [← hL2] at hx
          have h := take_may hx
          exact ⟨h.1, h.2.1, h.2.2.1⟩
      · exact h3.2.2 x hx
    · have h4 := add_keeps (N := N) (k := k) (d := d) (hE4.trans e4)
      rw [hL4] at h4
      exact h4.2.2.2
  have hlen : Hid (zr = true → L1.length ≤ 9 ∧ L2.length ≤ 1 ∧ L3.length ≤ 1 ∧ L4.length ≤ 9) := fun e => by
    rw [← hL1, ← hL2, ← hL3, ← hL4]
    exact ⟨leadk_len N (hzr.trans e), take_len N M, fit_len N M, addk_len N k d⟩
  replace hz := hid_mk hz
  replace hzr := hid_mk hzr
  clear hN1 hL1 hN2 hL2 hN3 hL3 hN4 hL4 hP4 hE4
  have hlN : Hid (N.h.l.rs.length = a.R.n) := hN.recs.len
  have hab := hN.rb
  unfold nodeV at hSm hNR hC1 hC2 hC3 hC4 ⊢
  unfold msgV at hSm hC2 hC3 ⊢
  obtain ⟨w0, hw0⟩ : ∃ x, ((w.alloc (.cells (ndC N a) 30)).alloc (.cells (msC M b) 32)) = x := ⟨_, rfl⟩
  have hB : Hid (Bxs w.heap.size w0 [⟨w.heap.size + 1, 32, msC M b⟩, ⟨w.heap.size, 30, ndC N a⟩]) := by
    rw [← hw0]
    exact (((Bxs.nil w.heap.size w).add_ rfl (by omega) 30 (ndC N a)).add_ (by simp) (by omega) 32 (msC M b))
  have q0 : Below w.heap.size w w0 := by rw [← hw0]; go_grown
  have z0 := q0.size
  dsimp only [ndC, msC, zeroN, nilA, zeroM, nilMA] at hw0
  refine calls_of_wpQ Tryz.func9 rfl ?_
  intro Q hQ
  simp only [Tryz.ntmps9, List.size_toArray, List.length_cons, List.length_nil, Nat.reduceAdd, Nat.reduceSub, Array.replicate_succ, Array.replicate_zero, List.push_toArray, List.append_toArray, List.nil_append, List.cons_append]
  go_upto_region 1 with fail
  try rw [hw0]
  clear hw0
  have lX := blk14c (hB.out.at_ 1 rfl)
  have lM := blk11v (hB.out.at_ 0 rfl)
  go_wp2_with fail
  clear lX lM
  refine (hSm _ (hN.to q0) (hM.to q0)).mono ?_
  rintro e w1 ⟨rfl, hb1⟩
  have q1 := (after (w := w) hb1 q0).1
  have z1 := q1.size
  replace hB := hid_mk (hB.out.keep hb1)
  clear hb1 q0 z0
  cases z
  case false =>
    have lX := blk14c (hB.out.at_ 1 rfl)
    have lM := blk11v (hB.out.at_ 0 rfl)
    go_wp2_with fail
    clear lX lM
    refine (alive18_any _ (ht.to q1) mm (hm2.out _ q1)).mono ?_
    rintro e w2 ⟨rfl, hb1⟩
    have q2 := (after (w := w) hb1 q1).1
    have z2 := q2.size
    replace hB := hid_mk (hB.out.keep hb1)
    clear hb1 q1 z1
    go_wp2
    refine ends_ret hQ (results_tmp rfl _ _ _) rfl ?_
    exact ⟨rfl, q2⟩
  have lX := blk14c (hB.out.at_ 1 rfl)
  go_wp2_with fail
  clear lX
  refine (alive18_any _ (ht.to q1) mm (hm2.out _ q1)).mono ?_
  rintro e w2 ⟨rfl, hb1⟩
  have q2 := (after (w := w) hb1 q1).1
  have z2 := q2.size
  replace hB := hid_mk (hB.out.keep hb1)
  clear hb1 q1 z1
  have lX := blk14c (hB.out.at_ 1 rfl)
  go_wp2_with fail
  clear lX
  refine (hNR _ (hN.to q2) (ht.to q2)).mono ?_
  rintro e w3 ⟨rfl, hb1⟩
  have q3 := (after (w := w) hb1 q2).1
  have z3 := q3.size
  replace hB := hid_mk (hB.out.keep hb1)
  clear hb1 q2 z2
  cases zr
  case false =>
    have lX := blk14c (hB.out.at_ 1 rfl)
    have lM := blk11v (hB.out.at_ 0 rfl)
    go_wp2_with fail
    clear lX lM
    refine (alive18_any _ (ht.to q3) mm (hm2.out _ q3)).mono ?_
    rintro e w4 ⟨rfl, hb1⟩
    have q4 := (after (w := w) hb1 q3).1
    have z4 := q4.size
    replace hB := hid_mk (hB.out.keep hb1)
    clear hb1 q3 z3
    go_wp2
    refine ends_ret hQ (results_tmp rfl _ _ _) rfl ?_
    exact ⟨rfl, q4⟩
  have hp0 := hpl.out (by first | rfl | trivial)
  have hl0 := hlen.out (by first | rfl | trivial)
  have hk1 := hid_mk hp0.1
  have hk2 := hid_mk hp0.2.1
  have hk3 := hid_mk hp0.2.2.1
  have hk4 := hid_mk hp0.2.2.2.1
  have hy := hid_mk hp0.2.2.2.2.1
  have hy4 := hid_mk hp0.2.2.2.2.2
  clear hp0 hSm hNR hpl hlen
  have lX := blk14c (hB.out.at_ 1 rfl)
  go_wp2_with fail
  clear lX
  refine (hC1 _ (by omega) (hN.to q3) (ht.to q3) (hm2.out _ q3)).mono ?_
  rintro e w4 ⟨a1, A1, n1, c1, pm1, rfl, hok1, hM1, hp1, hc1, hb1⟩
  have q4 := (after (w := w) hb1 q3).1
  have z4 := q4.size
  replace hB := hid_mk (hB.out.keep hb1)
  clear hb1 q3 z3
  have hn1 : n1 ≤ 9 := by
    have h := hM1.len
    have h2 := congrArg List.length hp1
    rw [List.length_map] at h2
    omega
  replace hp1 := hid_mk hp1
  replace hok1 := hid_mk hok1
  replace hM1 := hid_mk hM1
  unfold nodeV
  clear hC1
  have lX := blk14c (hB.out.at_ 1 rfl)
  have lM := blk11v (hB.out.at_ 0 rfl)
  obtain ⟨gA, hgA⟩ : ∃ g, w4.heap.size = g := ⟨_, rfl⟩
  have lgA : w.heap.size ≤ gA := by rw [← hgA]; exact q4.size
  replace hB := hid_mk (hB.out.add_ hgA lgA 30 (ndC N1 a1))
  replace hok1 := hid_mk (hok1.out.to ((Below.refl _ w4).alloc (Nat.le_refl _) (.cells (ndC N1 a1) 30)))
  replace hM1 := hid_mk (hM1.out.to ((Below.refl _ w4).alloc (Nat.le_refl _) (.cells (ndC N1 a1) 30)))
  have q5 := q4.alloc q4.size (.cells (ndC N1 a1) 30)
  obtain ⟨w5, hw5⟩ : ∃ x, w4.alloc (.cells (ndC N1 a1) 30) = x := ⟨_, rfl⟩
  rw [hw5] at hB hok1 hM1  q5
  try unfold ndC at hw5
  replace hw5 := hid_mk hw5
  replace hgA := hid_mk hgA
  go_upto_region 4 with fail
  try rw [hw5.out]
  try rw [hgA.out]
  clear lX lM hw5 hgA q4 z4
  have z5 := q5.size
  have lX := blk14c (hB.out.at_ 2 rfl)
  have lM := blk11v (hB.out.at_ 1 rfl)
  go_wp2_with fail
  clear lX lM
  refine (hC2 _ (by omega) (hN.to q5) (hM.to q5) (ht.to q5)).mono ?_
  rintro e w6 ⟨a2, A2, n2, c2, pm2, rfl, hok2, hM2, hp2, hc2, hb1⟩
  have q6 := (after (w := w) hb1 q5).1
  have z6 := q6.size
  replace hB := hid_mk (hB.out.keep hb1)
  replace hok1 := hid_mk (hok1.out.to hb1)
  replace hM1 := hid_mk (hM1.out.to hb1)
  clear hb1 q5 z5
  have hn2 : n2 ≤ 1 := by
    have h := hM2.len
    have h2 := congrArg List.length hp2
    rw [List.length_map] at h2
    omega
  replace hp2 := hid_mk hp2
  replace hok2 := hid_mk hok2
  replace hM2 := hid_mk hM2
  unfold nodeV
  clear hC2
  have lX := blk14c (hB.out.at_ 2 rfl)
  have lM := blk11v (hB.out.at_ 1 rfl)
  obtain ⟨gD, hgD⟩ : ∃ g, w6.heap.size = g := ⟨_, rfl⟩
  have lgD : w.heap.size ≤ gD := by rw [← hgD]; exact q6.size
  replace hB := hid_mk (hB.out.add_ hgD lgD 30 (ndC N2 a2))
  replace hok1 := hid_mk (hok1.out.to ((Below.refl _ w6).alloc (Nat.le_refl _) (.cells (ndC N2 a2) 30)))
  replace hM1 := hid_mk (hM1.out.to ((Below.refl _ w6).alloc (Nat.le_refl _) (.cells (ndC N2 a2) 30)))
  replace hok2 := hid_mk (hok2.out.to ((Below.refl _ w6).alloc (Nat.le_refl _) (.cells (ndC N2 a2) 30)))
  replace hM2 := hid_mk (hM2.out.to ((Below.refl _ w6).alloc (Nat.le_refl _) (.cells (ndC N2 a2) 30)))
  have q7 := q6.alloc q6.size (.cells (ndC N2 a2) 30)
  obtain ⟨w7, hw7⟩ : ∃ x, w6.alloc (.cells (ndC N2 a2) 30) = x := ⟨_, rfl⟩
  rw [hw7] at hB hok1 hM1 hok2 hM2  q7
  try unfold ndC at hw7
  replace hw7 := hid_mk hw7
  replace hgD := hid_mk hgD
  go_upto_region 5 with fail
  try rw [hw7.out]
  try rw [hgD.out]
  clear lX lM hw7 hgD q6 z6
  have z7 := q7.size
  have lX := blk14c (hB.out.at_ 3 rfl)
  have lM := blk11v (hB.out.at_ 2 rfl)
  go_wp2_with fail
  clear lX lM
  refine (hC3 _ (by omega) (hN.to q7) (hM.to q7) (ht.to q7) (hm2.out _ q7)).mono ?_
  rintro e w8 ⟨a3, A3, n3, c3, pm3, rfl, hok3, hM3, hp3, hc3, hb1⟩
  have q8 := (after (w := w) hb1 q7).1
  have z8 := q8.size
  replace hB := hid_mk (hB.out.keep hb1)
  replace hok1 := hid_mk (hok1.out.to hb1)
  replace hM1 := hid_mk (hM1.out.to hb1)
  replace hok2 := hid_mk (hok2.out.to hb1)
  replace hM2 := hid_mk (hM2.out.to hb1)
  clear hb1 q7 z7
  have hn3 : n3 ≤ 1 := by
    have h := hM3.len
    have h2 := congrArg List.length hp3
    rw [List.length_map] at h2
    omega
  replace hp3 := hid_mk hp3
  replace hok3 := hid_mk hok3
  replace hM3 := hid_mk hM3
  unfold nodeV
  clear hC3
  have lX := blk14c (hB.out.at_ 3 rfl)
  have lM := blk11v (hB.out.at_ 2 rfl)
  obtain ⟨gE, hgE⟩ : ∃ g, w8.heap.size = g := ⟨_, rfl⟩
  have lgE : w.heap.size ≤ gE := by rw [← hgE]; exact q8.size
  replace hB := hid_mk (hB.out.add_ hgE lgE 30 (ndC N3 a3))
  replace hok1 := hid_mk (hok1.out.to ((Below.refl _ w8).alloc (Nat.le_refl _) (.cells (ndC N3 a3) 30)))
  replace hM1 := hid_mk (hM1.out.to ((Below.refl _ w8).alloc (Nat.le_refl _) (.cells (ndC N3 a3) 30)))
  replace hok2 := hid_mk (hok2.out.to ((Below.refl _ w8).alloc (Nat.le_refl _) (.cells (ndC N3 a3) 30)))
  replace hM2 := hid_mk (hM2.out.to ((Below.refl _ w8).alloc (Nat.le_refl _) (.cells (ndC N3 a3) 30)))
  replace hok3 := hid_mk (hok3.out.to ((Below.refl _ w8).alloc (Nat.le_refl _) (.cells (ndC N3 a3) 30)))
  replace hM3 := hid_mk (hM3.out.to ((Below.refl _ w8).alloc (Nat.le_refl _) (.cells (ndC N3 a3) 30)))
  have q9 := q8.alloc q8.size (.cells (ndC N3 a3) 30)
  obtain ⟨w9, hw9⟩ : ∃ x, w8.alloc (.cells (ndC N3 a3) 30) = x := ⟨_, rfl⟩
  rw [hw9] at hB hok1 hM1 hok2 hM2 hok3 hM3  q9
  try unfold ndC at hw9
  replace hw9 := hid_mk hw9
  replace hgE := hid_mk hgE
  go_upto_region 6 with fail
  try rw [hw9.out]
  try rw [hgE.out]
  clear lX lM hw9 hgE q8 z8
  have z9 := q9.size
  have lA := blk14c (hB.out.at_ 2 rfl)
  have lD := blk14c (hB.out.at_ 1 rfl)
  have lE := blk14c (hB.out.at_ 0 rfl)
  obtain ⟨gR, hgR⟩ : ∃ g, w9.heap.size = g := ⟨_, rfl⟩
  have lgR : w.heap.size ≤ gR := by rw [← hgR]; exact q9.size
  have hRow := World.ownsRow_lit (base := w.heap.size) (e := 30) (size := 14) w9 #[.int .i64 N1.id, .int .i64 N1.h.t, .int .i64 N1.h.v, .int .i64 N1.h.l.base, .int .i64 N1.h.l.bt, .slice a1.R.A a1.R.n a1.R.c, .string N1.h.s, .slice a1.V.A a1.V.n a1.V.c, .int .i64 N1.role, .int .i64 N1.lead, .int .i64 N1.timer, .int .i64 N1.commit, .slice a1.G.A a1.G.n a1.G.c, .slice a1.P.A a1.P.n a1.P.c, .int .i64 N2.id, .int .i64 N2.h.t, .int .i64 N2.h.v, .int .i64 N2.h.l.base, .int .i64 N2.h.l.bt, .slice a2.R.A a2.R.n a2.R.c, .string N2.h.s, .slice a2.V.A a2.V.n a2.V.c, .int .i64 N2.role, .int .i64 N2.lead, .int .i64 N2.timer, .int .i64 N2.commit, .slice a2.G.A a2.G.n a2.G.c, .slice a2.P.A a2.P.n a2.P.c, .int .i64 N3.id, .int .i64 N3.h.t, .int .i64 N3.h.v, .int .i64 N3.h.l.base, .int .i64 N3.h.l.bt, .slice a3.R.A a3.R.n a3.R.c, .string N3.h.s, .slice a3.V.A a3.V.n a3.V.c, .int .i64 N3.role, .int .i64 N3.lead, .int .i64 N3.timer, .int .i64 N3.commit, .slice a3.G.A a3.G.n a3.G.c, .slice a3.P.A a3.P.n a3.P.c] 3 q9.size (by unfold maxLen; omega) (by simp)
  rw [hgR] at hRow
  replace hB := hid_mk (hB.out.add_ hgR lgR 30 (#[.int .i64 N1.id, .int .i64 N1.h.t, .int .i64 N1.h.v, .int .i64 N1.h.l.base, .int .i64 N1.h.l.bt, .slice a1.R.A a1.R.n a1.R.c, .string N1.h.s, .slice a1.V.A a1.V.n a1.V.c, .int .i64 N1.role, .int .i64 N1.lead, .int .i64 N1.timer, .int .i64 N1.commit, .slice a1.G.A a1.G.n a1.G.c, .slice a1.P.A a1.P.n a1.P.c, .int .i64 N2.id, .int .i64 N2.h.t, .int .i64 N2.h.v, .int .i64 N2.h.l.base, .int .i64 N2.h.l.bt, .slice a2.R.A a2.R.n a2.R.c, .string N2.h.s, .slice a2.V.A a2.V.n a2.V.c, .int .i64 N2.role, .int .i64 N2.lead, .int .i64 N2.timer, .int .i64 N2.commit, .slice a2.G.A a2.G.n a2.G.c, .slice a2.P.A a2.P.n a2.P.c, .int .i64 N3.id, .int .i64 N3.h.t, .int .i64 N3.h.v, .int .i64 N3.h.l.base, .int .i64 N3.h.l.bt, .slice a3.R.A a3.R.n a3.R.c, .string N3.h.s, .slice a3.V.A a3.V.n a3.V.c, .int .i64 N3.role, .int .i64 N3.lead, .int .i64 N3.timer, .int .i64 N3.commit, .slice a3.G.A a3.G.n a3.G.c, .slice a3.P.A a3.P.n a3.P.c]))
  replace hok1 := hid_mk (hok1.out.to ((Below.refl _ w9).alloc (Nat.le_refl _) (.cells (#[.int .i64 N1.id, .int .i64 N1.h.t, .int .i64 N1.h.v, .int .i64 N1.h.l.base, .int .i64 N1.h.l.bt, .slice a1.R.A a1.R.n a1.R.c, .string N1.h.s, .slice a1.V.A a1.V.n a1.V.c, .int .i64 N1.role, .int .i64 N1.lead, .int .i64 N1.timer, .int .i64 N1.commit, .slice a1.G.A a1.G.n a1.G.c, .slice a1.P.A a1.P.n a1.P.c, .int .i64 N2.id, .int .i64 N2.h.t, .int .i64 N2.h.v, .int .i64 N2.h.l.base, .int .i64 N2.h.l.bt, .slice a2.R.A a2.R.n a2.R.c, .string N2.h.s, .slice a2.V.A a2.V.n a2.V.c, .int .i64 N2.role, .int .i64 N2.lead, .int .i64 N2.timer, .int .i64 N2.commit, .slice a2.G.A a2.G.n a2.G.c, .slice a2.P.A a2.P.n a2.P.c, .int .i64 N3.id, .int .i64 N3.h.t, .int .i64 N3.h.v, .int .i64 N3.h.l.base, .int .i64 N3.h.l.bt, .slice a3.R.A a3.R.n a3.R.c, .string N3.h.s, .slice a3.V.A a3.V.n a3.V.c, .int .i64 N3.role, .int .i64 N3.lead, .int .i64 N3.timer, .int .i64 N3.commit, .slice a3.G.A a3.G.n a3.G.c, .slice a3.P.A a3.P.n a3.P.c]) 30)))
  replace hM1 := hid_mk (hM1.out.to ((Below.refl _ w9).alloc (Nat.le_refl _) (.cells (#[.int .i64 N1.id, .int .i64 N1.h.t, .int .i64 N1.h.v, .int .i64 N1.h.l.base, .int .i64 N1.h.l.bt, .slice a1.R.A a1.R.n a1.R.c, .string N1.h.s, .slice a1.V.A a1.V.n a1.V.c, .int .i64 N1.role, .int .i64 N1.lead, .int .i64 N1.timer, .int .i64 N1.commit, .slice a1.G.A a1.G.n a1.G.c, .slice a1.P.A a1.P.n a1.P.c, .int .i64 N2.id, .int .i64 N2.h.t, .int .i64 N2.h.v, .int .i64 N2.h.l.base, .int .i64 N2.h.l.bt, .slice a2.R.A a2.R.n a2.R.c, .string N2.h.s, .slice a2.V.A a2.V.n a2.V.c, .int .i64 N2.role, .int .i64 N2.lead, .int .i64 N2.timer, .int .i64 N2.commit, .slice a2.G.A a2.G.n a2.G.c, .slice a2.P.A a2.P.n a2.P.c, .int .i64 N3.id, .int .i64 N3.h.t, .int .i64 N3.h.v, .int .i64 N3.h.l.base, .int .i64 N3.h.l.bt, .slice a3.R.A a3.R.n a3.R.c, .string N3.h.s, .slice a3.V.A a3.V.n a3.V.c, .int .i64 N3.role, .int .i64 N3.lead, .int .i64 N3.timer, .int .i64 N3.commit, .slice a3.G.A a3.G.n a3.G.c, .slice a3.P.A a3.P.n a3.P.c]) 30)))
  replace hok2 := hid_mk (hok2.out.to ((Below.refl _ w9).alloc (Nat.le_refl _) (.cells (#[.int .i64 N1.id, .int .i64 N1.h.t, .int .i64 N1.h.v, .int .i64 N1.h.l.base, .int .i64 N1.h.l.bt, .slice a1.R.A a1.R.n a1.R.c, .string N1.h.s, .slice a1.V.A a1.V.n a1.V.c, .int .i64 N1.role, .int .i64 N1.lead, .int .i64 N1.timer, .int .i64 N1.commit, .slice a1.G.A a1.G.n a1.G.c, .slice a1.P.A a1.P.n a1.P.c, .int .i64 N2.id, .int .i64 N2.h.t, .int .i64 N2.h.v, .int .i64 N2.h.l.base, .int .i64 N2.h.l.bt, .slice a2.R.A a2.R.n a2.R.c, .string N2.h.s, .slice a2.V.A a2.V.n a2.V.c, .int .i64 N2.role, .int .i64 N2.lead, .int .i64 N2.timer, .int .i64 N2.commit, .slice a2.G.A a2.G.n a2.G.c, .slice a2.P.A a2.P.n a2.P.c, .int .i64 N3.id, .int .i64 N3.h.t, .int .i64 N3.h.v, .int .i64 N3.h.l.base, .int .i64 N3.h.l.bt, .slice a3.R.A a3.R.n a3.R.c, .string N3.h.s, .slice a3.V.A a3.V.n a3.V.c, .int .i64 N3.role, .int .i64 N3.lead, .int .i64 N3.timer, .int .i64 N3.commit, .slice a3.G.A a3.G.n a3.G.c, .slice a3.P.A a3.P.n a3.P.c]) 30)))
  replace hM2 := hid_mk (hM2.out.to ((Below.refl _ w9).alloc (Nat.le_refl _) (.cells (#[.int .i64 N1.id, .int .i64 N1.h.t, .int .i64 N1.h.v, .int .i64 N1.h.l.base, .int .i64 N1.h.l.bt, .slice a1.R.A a1.R.n a1.R.c, .string N1.h.s, .slice a1.V.A a1.V.n a1.V.c, .int .i64 N1.role, .int .i64 N1.lead, .int .i64 N1.timer, .int .i64 N1.commit, .slice a1.G.A a1.G.n a1.G.c, .slice a1.P.A a1.P.n a1.P.c, .int .i64 N2.id, .int .i64 N2.h.t, .int .i64 N2.h.v, .int .i64 N2.h.l.base, .int .i64 N2.h.l.bt, .slice a2.R.A a2.R.n a2.R.c, .string N2.h.s, .slice a2.V.A a2.V.n a2.V.c, .int .i64 N2.role, .int .i64 N2.lead, .int .i64 N2.timer, .int .i64 N2.commit, .slice a2.G.A a2.G.n a2.G.c, .slice a2.P.A a2.P.n a2.P.c, .int .i64 N3.id, .int .i64 N3.h.t, .int .i64 N3.h.v, .int .i64 N3.h.l.base, .int .i64 N3.h.l.bt, .slice a3.R.A a3.R.n a3.R.c, .string N3.h.s, .slice a3.V.A a3.V.n a3.V.c, .int .i64 N3.role, .int .i64 N3.lead, .int .i64 N3.timer, .int .i64 N3.commit, .slice a3.G.A a3.G.n a3.G.c, .slice a3.P.A a3.P.n a3.P.c]) 30)))
  replace hok3 := hid_mk (hok3.out.to ((Below.refl _ w9).alloc (Nat.le_refl _) (.cells (#[.int .i64 N1.id, .int .i64 N1.h.t, .int .i64 N1.h.v, .int .i64 N1.h.l.base, .int .i64 N1.h.l.bt, .slice a1.R.A a1.R.n a1.R.c, .string N1.h.s, .slice a1.V.A a1.V.n a1.V.c, .int .i64 N1.role, .int .i64 N1.lead, .int .i64 N1.timer, .int .i64 N1.commit, .slice a1.G.A a1.G.n a1.G.c, .slice a1.P.A a1.P.n a1.P.c, .int .i64 N2.id, .int .i64 N2.h.t, .int .i64 N2.h.v, .int .i64 N2.h.l.base, .int .i64 N2.h.l.bt, .slice a2.R.A a2.R.n a2.R.c, .string N2.h.s, .slice a2.V.A a2.V.n a2.V.c, .int .i64 N2.role, .int .i64 N2.lead, .int .i64 N2.timer, .int .i64 N2.commit, .slice a2.G.A a2.G.n a2.G.c, .slice a2.P.A a2.P.n a2.P.c, .int .i64 N3.id, .int .i64 N3.h.t, .int .i64 N3.h.v, .int .i64 N3.h.l.base, .int .i64 N3.h.l.bt, .slice a3.R.A a3.R.n a3.R.c, .string N3.h.s, .slice a3.V.A a3.V.n a3.V.c, .int .i64 N3.role, .int .i64 N3.lead, .int .i64 N3.timer, .int .i64 N3.commit, .slice a3.G.A a3.G.n a3.G.c, .slice a3.P.A a3.P.n a3.P.c]) 30)))
  replace hM3 := hid_mk (hM3.out.to ((Below.refl _ w9).alloc (Nat.le_refl _) (.cells (#[.int .i64 N1.id, .int .i64 N1.h.t, .int .i64 N1.h.v, .int .i64 N1.h.l.base, .int .i64 N1.h.l.bt, .slice a1.R.A a1.R.n a1.R.c, .string N1.h.s, .slice a1.V.A a1.V.n a1.V.c, .int .i64 N1.role, .int .i64 N1.lead, .int .i64 N1.timer, .int .i64 N1.commit, .slice a1.G.A a1.G.n a1.G.c, .slice a1.P.A a1.P.n a1.P.c, .int .i64 N2.id, .int .i64 N2.h.t, .int .i64 N2.h.v, .int .i64 N2.h.l.base, .int .i64 N2.h.l.bt, .slice a2.R.A a2.R.n a2.R.c, .string N2.h.s, .slice a2.V.A a2.V.n a2.V.c, .int .i64 N2.role, .int .i64 N2.lead, .int .i64 N2.timer, .int .i64 N2.commit, .slice a2.G.A a2.G.n a2.G.c, .slice a2.P.A a2.P.n a2.P.c, .int .i64 N3.id, .int .i64 N3.h.t, .int .i64 N3.h.v, .int .i64 N3.h.l.base, .int .i64 N3.h.l.bt, .slice a3.R.A a3.R.n a3.R.c, .string N3.h.s, .slice a3.V.A a3.V.n a3.V.c, .int .i64 N3.role, .int .i64 N3.lead, .int .i64 N3.timer, .int .i64 N3.commit, .slice a3.G.A a3.G.n a3.G.c, .slice a3.P.A a3.P.n a3.P.c]) 30)))
  have q10 := q9.alloc q9.size (.cells (#[.int .i64 N1.id, .int .i64 N1.h.t, .int .i64 N1.h.v, .int .i64 N1.h.l.base, .int .i64 N1.h.l.bt, .slice a1.R.A a1.R.n a1.R.c, .string N1.h.s, .slice a1.V.A a1.V.n a1.V.c, .int .i64 N1.role, .int .i64 N1.lead, .int .i64 N1.timer, .int .i64 N1.commit, .slice a1.G.A a1.G.n a1.G.c, .slice a1.P.A a1.P.n a1.P.c, .int .i64 N2.id, .int .i64 N2.h.t, .int .i64 N2.h.v, .int .i64 N2.h.l.base, .int .i64 N2.h.l.bt, .slice a2.R.A a2.R.n a2.R.c, .string N2.h.s, .slice a2.V.A a2.V.n a2.V.c, .int .i64 N2.role, .int .i64 N2.lead, .int .i64 N2.timer, .int .i64 N2.commit, .slice a2.G.A a2.G.n a2.G.c, .slice a2.P.A a2.P.n a2.P.c, .int .i64 N3.id, .int .i64 N3.h.t, .int .i64 N3.h.v, .int .i64 N3.h.l.base, .int .i64 N3.h.l.bt, .slice a3.R.A a3.R.n a3.R.c, .string N3.h.s, .slice a3.V.A a3.V.n a3.V.c, .int .i64 N3.role, .int .i64 N3.lead, .int .i64 N3.timer, .int .i64 N3.commit, .slice a3.G.A a3.G.n a3.G.c, .slice a3.P.A a3.P.n a3.P.c]) 30)
  obtain ⟨w10, hw10⟩ : ∃ x, w9.alloc (.cells (#[.int .i64 N1.id, .int .i64 N1.h.t, .int .i64 N1.h.v, .int .i64 N1.h.l.base, .int .i64 N1.h.l.bt, .slice a1.R.A a1.R.n a1.R.c, .string N1.h.s, .slice a1.V.A a1.V.n a1.V.c, .int .i64 N1.role, .int .i64 N1.lead, .int .i64 N1.timer, .int .i64 N1.commit, .slice a1.G.A a1.G.n a1.G.c, .slice a1.P.A a1.P.n a1.P.c, .int .i64 N2.id, .int .i64 N2.h.t, .int .i64 N2.h.v, .int .i64 N2.h.l.base, .int .i64 N2.h.l.bt, .slice a2.R.A a2.R.n a2.R.c, .string N2.h.s, .slice a2.V.A a2.V.n a2.V.c, .int .i64 N2.role, .int .i64 N2.lead, .int .i64 N2.timer, .int .i64 N2.commit, .slice a2.G.A a2.G.n a2.G.c, .slice a2.P.A a2.P.n a2.P.c, .int .i64 N3.id, .int .i64 N3.h.t, .int .i64 N3.h.v, .int .i64 N3.h.l.base, .int .i64 N3.h.l.bt, .slice a3.R.A a3.R.n a3.R.c, .string N3.h.s, .slice a3.V.A a3.V.n a3.V.c, .int .i64 N3.role, .int .i64 N3.lead, .int .i64 N3.timer, .int .i64 N3.commit, .slice a3.G.A a3.G.n a3.G.c, .slice a3.P.A a3.P.n a3.P.c]) 30) = x := ⟨_, rfl⟩
  rw [hw10] at hB hok1 hM1 hok2 hM2 hok3 hM3 hRow q10
  try unfold ndC at hw10
  replace hw10 := hid_mk hw10
  replace hgR := hid_mk hgR
  go_upto_region 7 with fail
  try rw [hw10.out]
  try rw [hgR.out]
  clear lA lD lE hw10 hgR q9 z9
  have z10 := q10.size
  replace hRow : Hid (OwnK w10 w.heap.size 30 14 (.slice (some ⟨gR, 0, none⟩) 3 3) 3 (ndsL [(N1, a1), (N2, a2), (N3, a3)])) := hRow
  obtain ⟨i0, hi0, hz0, hz1, hz2⟩ := info_parts msgInfo
  have hown0 := World.ownsRow_lit (base := w10.heap.size) (e := 32) (size := 11) w10 #[] 0 (Nat.le_refl _) (by unfold maxLen; omega) (by simp)
  have rb0 : Below w10.heap.size w10 (w10.alloc (.cells #[] 32)) := (Below.refl _ w10).alloc (Nat.le_refl _) _
  have hr1 := hid_mk (hM1.out.to rb0).1
  go_upto_region 8 with (first | (at_builtin; refine wpList_append_any _ rfl (.tmp 66) (.tmp 67) _ rfl w10.heap.size 32 i0 _ 11 128 Tryz.underlying34 hi0 hz0 hz1 hz2 rfl (by omega) _ 0 [] rfl hown0 w.heap.size A1 n1 c1 _ rfl hr1.out (msg_one _) (by simp only [maxLen]; omega) (by omega) (rb0.size) ?_; intro v1 wa1 hown1 hga hat; simp only [Nat.zero_add, List.nil_append] at hown1; have rb1 : Below w10.heap.size w10 wa1 := grown_below rb0 hga (fun k hk => (World.ownsRow.lt hown0 k hk).1); clear hga hat hown0 hr1; have hr2 := hid_mk (hM2.out.to rb1).1) | (at_builtin; refine wpList_append_any _ rfl (.tmp 68) (.tmp 69) _ rfl w10.heap.size 32 i0 _ 11 128 Tryz.underlying34 hi0 hz0 hz1 hz2 rfl (by omega) _ n1 _ rfl hown1 w.heap.size A2 n2 c2 _ rfl hr2.out (msg_one _) (by simp only [maxLen]; omega) (by omega) (rb1.size) ?_; intro v2 wa2 hown2 hga hat; have rb2 : Below w10.heap.size w10 wa2 := grown_below rb1 hga (fun k hk => (World.ownsRow.lt hown1 k hk).1); clear hga hat hown1 hr2; have hr3 := hid_mk (hM3.out.to rb2).1) | (at_builtin; refine wpList_append_any _ rfl (.tmp 70) (.tmp 71) _ rfl w10.heap.size 32 i0 _ 11 128 Tryz.underlying34 hi0 hz0 hz1 hz2 rfl (by omega) _ (n1 + n2) _ rfl hown2 w.heap.size A3 n3 c3 _ rfl hr3.out (msg_one _) (by simp only [maxLen]; omega) (by omega) (rb2.size) ?_; intro v3 wa3 hown3 hga hat; have rb3 : Below w10.heap.size w10 wa3 := grown_below rb2 hga (fun k hk => (World.ownsRow.lt hown2 k hk).1); clear hga hat hown2 hr3; obtain ⟨AS, cS, rfl, hs1, hs2⟩ := own_slice hown3))
  have q11 : Below w.heap.size w wa3 := q10.trans (rb3.mono q10.size)
  have z11 := q11.size
  replace hB := hid_mk (hB.out.keep rb3)
  replace hok1 := hid_mk (hok1.out.to rb3)
  replace hM1 := hid_mk (hM1.out.to rb3)
  replace hok2 := hid_mk (hok2.out.to rb3)
  replace hM2 := hid_mk (hM2.out.to rb3)
  replace hok3 := hid_mk (hok3.out.to rb3)
  replace hM3 := hid_mk (hM3.out.to rb3)
  replace hRow := hid_mk (hRow.out.to rb3)
  obtain ⟨nS, hnS⟩ : ∃ z, n1 + n2 + n3 = z := ⟨_, rfl⟩
  rw [hnS] at hown3 hs1 ⊢
  have hnb : nS ≤ 11 := by omega
  obtain ⟨bS, hbS⟩ : ∃ z, w10.heap.size = z := ⟨_, rfl⟩
  have hbl : w.heap.size ≤ bS := by rw [← hbS]; exact q10.size
  have hBS : Hid (LeSz wa3 bS) := by rw [← hbS]; exact rb3.size
  rw [hbS] at hown3
  replace hnS := hid_mk hnS
  have hS : Hid (OwnK wa3 bS 32 11 (.slice AS nS cS) nS (mgsL (pm1 ++ pm2 ++ pm3))) := by
    rw [mgsk_app, mgsk_app]
    exact hown3
  clear hown3 rb0 rb1 rb2 rb3 q10 z10 hbS
  have lX := blk14c (hB.out.at_ 5 rfl)
  go_wp2_with fail
  clear lX
  refine (hC4 _ (by omega) (hN.to q11) (ht.to q11) (hm2.out _ q11)).mono ?_
  rintro e w12 ⟨a4, A4, n4, c4, pm4, rfl, hok4, hM4, hp4, hc4, hb1⟩
  have q12 := (after (w := w) hb1 q11).1
  have z12 := q12.size
  replace hB := hid_mk (hB.out.keep hb1)
  replace hok1 := hid_mk (hok1.out.to hb1)
  replace hM1 := hid_mk (hM1.out.to hb1)
  replace hok2 := hid_mk (hok2.out.to hb1)
  replace hM2 := hid_mk (hM2.out.to hb1)
  replace hok3 := hid_mk (hok3.out.to hb1)
  replace hM3 := hid_mk (hM3.out.to hb1)
  replace hRow := hid_mk (hRow.out.to hb1)
  replace hS := hid_mk (hS.out.to hb1)
  replace hBS := hid_mk (hBS.out.to hb1)
  clear hb1 q11 z11
  have hn4 : n4 ≤ 9 := by
    have h := hM4.len
    have h2 := congrArg List.length hp4
    rw [List.length_map] at h2
    omega
  replace hp4 := hid_mk hp4
  replace hok4 := hid_mk hok4
  replace hM4 := hid_mk hM4
  unfold nodeV
  clear hC4
  have lX := blk14c (hB.out.at_ 5 rfl)
  have lM := blk11v (hB.out.at_ 4 rfl)
  obtain ⟨gG, hgG⟩ : ∃ g, w12.heap.size = g := ⟨_, rfl⟩
  have lgG : w.heap.size ≤ gG := by rw [← hgG]; exact q12.size
  replace hB := hid_mk (hB.out.add_ hgG lgG 30 (ndC N4 a4))
  replace hok1 := hid_mk (hok1.out.to ((Below.refl _ w12).alloc (Nat.le_refl _) (.cells (ndC N4 a4) 30)))
  replace hM1 := hid_mk (hM1.out.to ((Below.refl _ w12).alloc (Nat.le_refl _) (.cells (ndC N4 a4) 30)))
  replace hok2 := hid_mk (hok2.out.to ((Below.refl _ w12).alloc (Nat.le_refl _) (.cells (ndC N4 a4) 30)))
  replace hM2 := hid_mk (hM2.out.to ((Below.refl _ w12).alloc (Nat.le_refl _) (.cells (ndC N4 a4) 30)))
  replace hok3 := hid_mk (hok3.out.to ((Below.refl _ w12).alloc (Nat.le_refl _) (.cells (ndC N4 a4) 30)))
  replace hM3 := hid_mk (hM3.out.to ((Below.refl _ w12).alloc (Nat.le_refl _) (.cells (ndC N4 a4) 30)))
  replace hRow := hid_mk (hRow.out.to ((Below.refl _ w12).alloc (Nat.le_refl _) (.cells (ndC N4 a4) 30)))
  replace hS := hid_mk (hS.out.to ((Below.refl _ w12).alloc (Nat.le_refl _) (.cells (ndC N4 a4) 30)))
  replace hBS := hid_mk (hBS.out.to ((Below.refl _ w12).alloc (Nat.le_refl _) (.cells (ndC N4 a4) 30)))
  replace hok4 := hid_mk (hok4.out.to ((Below.refl _ w12).alloc (Nat.le_refl _) (.cells (ndC N4 a4) 30)))
  replace hM4 := hid_mk (hM4.out.to ((Below.refl _ w12).alloc (Nat.le_refl _) (.cells (ndC N4 a4) 30)))
  have q13 := q12.alloc q12.size (.cells (ndC N4 a4) 30)
  obtain ⟨w13, hw13⟩ : ∃ x, w12.alloc (.cells (ndC N4 a4) 30) = x := ⟨_, rfl⟩
  rw [hw13] at hB hok1 hM1 hok2 hM2 hok3 hM3 hRow hS hBS hok4 hM4  q13
  try unfold ndC at hw13
  replace hw13 := hid_mk hw13
  replace hgG := hid_mk hgG
  go_upto_region 9 with fail
  try rw [hw13.out]
  try rw [hgG.out]
  clear lX lM hw13 hgG q12 z12
  have z13 := q13.size
  have e4 : (E4 == 0) = false := by simpa using hK
  replace hK := hid_mk hK
  go_upto_region 15 with fail
  clear e4
  have hNds : Hid (Nds w13 w.heap.size (some ⟨gR, 0, none⟩) 3 [(N1, a1), (N2, a2), (N3, a3)]) := ⟨Reads.of_own hRow.out, fun p hp => by
    simp only [List.mem_cons, List.mem_nil_iff, or_false] at hp
    rcases hp with rfl | rfl | rfl
    · exact hok1.out
    · exact hok2.out
    · exact hok3.out⟩
  have hMgs : Hid (Mgs w13 w.heap.size AS nS (pm1 ++ pm2 ++ pm3)) := ⟨Reads.of_own hS.out, fun p hp => by
    rcases List.mem_append.1 hp with hp | hp
    · rcases List.mem_append.1 hp with hp | hp
      · exact hM1.out.2 p hp
      · exact hM2.out.2 p hp
    · exact hM3.out.2 p hp⟩
  have hks : Hid (∀ p ∈ [(N1, a1), (N2, a2), (N3, a3)], Kept N p.1 ∧ (N.role = 2 → Holds N p.1)) := fun p hp => by
    simp only [List.mem_cons, List.mem_nil_iff, or_false] at hp
    rcases hp with rfl | rfl | rfl
    · exact hk1.out
    · exact hk2.out
    · exact hk3.out
  have hmy : Hid (∀ p ∈ pm1 ++ pm2 ++ pm3, mayM p.1 = true ∧ p.1.fr = N.id ∧ p.1.term = N.h.t) := fun p hp => by
    have hmm : p.1 ∈ (pm1 ++ pm2 ++ pm3).map Prod.fst := List.mem_map_of_mem hp
    rw [List.map_append, List.map_append, hp1.out, hp2.out, hp3.out] at hmm
    exact hy.out _ hmm
  obtain ⟨LL, hLL⟩ : ∃ z, z = [(N1, a1), (N2, a2), (N3, a3)] := ⟨_, rfl⟩
  obtain ⟨PP, hPP⟩ : ∃ z, z = pm1 ++ pm2 ++ pm3 := ⟨_, rfl⟩
  rw [← hLL] at hNds hks
  rw [← hPP] at hMgs hmy
  replace hLL := hid_mk hLL
  replace hPP := hid_mk hPP
  have hBX : Hid (Bxs w.heap.size w13 [⟨w.heap.size, 30, ndC N a⟩]) := Bxs.sub hB.out (.cons _ (.cons _ (.cons _ (.cons _ (.cons _ (.cons _ (.cons_cons _ .slnil)))))))
  clear hB hok1 hM1 hok2 hM2 hok3 hM3 hRow hS hBS hok4 hM4
  have hB := hBX
  clear hBX
  go_wp2
  go_loopw [103] (fun iv wr => ∃ k : Nat, iv = .int .i64 k ∧ k ≤ 3 ∧ Below w.heap.size w wr ∧ Hid (Nds wr w.heap.size (some ⟨gR, 0, none⟩) 3 LL) ∧ Hid (Mgs wr w.heap.size AS nS PP) ∧ Hid (Bxs w.heap.size wr [⟨w.heap.size, 30, ndC N a⟩])) (fun iv _ => 3 - (intOf iv).toNat)
  case atStart => exact ⟨0, rfl, by omega, q13, hNds, hMgs, hB⟩
  case round =>
    clear hB hNds hMgs q13 z13
    obtain ⟨k, rfl, hk, qr, hNds, hMgs, hB⟩ := hrel
    have zr := qr.size
    by_cases hlt : k < 3
    · as_aux_lemma =>
        obtain ⟨bo, oo, p, hbo, hbb, hmem, hok, c0, c1, c2, c3, c4, c5, c6, c7, c8, c9, c10, c11, c12, c13⟩ := hNds.out.at_ hlt
        injection hbo with hbo
        injection hbo with hbo1 hbo2
        subst hbo1
        subst hbo2
        have hkp := hks.out p hmem
        obtain ⟨Y, ya⟩ := p
        dsimp only at hok hkp c0 c1 c2 c3 c4 c5 c6 c7 c8 c9 c10 c11 c12 c13
        rw [Nat.zero_add] at c0 c1 c2 c3 c4 c5 c6 c7 c8 c9 c10 c11 c12 c13
        have hok := hid_mk hok
        have hkp := hid_mk hkp
        have k0 : (0 : Int) ≤ k := by omega
        have k1 : (k : Int) < 3 := by omega
        clear hmem
        have lX := blk14c (hB.out.at_ 0 rfl)
        obtain ⟨gV, hgV⟩ : ∃ g, wr.heap.size = g := ⟨_, rfl⟩
        have lgV : w.heap.size ≤ gV := by rw [← hgV]; exact qr.size
        replace hB := hid_mk (hB.out.add_ hgV lgV 30 (ndC Y ya))
        replace hNds := hid_mk (hNds.out.to ((Below.refl _ wr).alloc (Nat.le_refl _) (.cells (ndC Y ya) 30)))
        replace hMgs := hid_mk (hMgs.out.to ((Below.refl _ wr).alloc (Nat.le_refl _) (.cells (ndC Y ya) 30)))
        replace hok := hid_mk (hok.out.to ((Below.refl _ wr).alloc (Nat.le_refl _) (.cells (ndC Y ya) 30)))
        have q101 := qr.alloc qr.size (.cells (ndC Y ya) 30)
        obtain ⟨w101, hw101⟩ : ∃ x, wr.alloc (.cells (ndC Y ya) 30) = x := ⟨_, rfl⟩
        rw [hw101] at hB hNds hMgs hok  q101
        try unfold ndC at hw101
        replace hw101 := hid_mk hw101
        replace hgV := hid_mk hgV
        go_upto_region 18 with fail
        try rw [hw101.out]
        try rw [hgV.out]
        clear lX hw101 hgV qr zr
        have z101 := q101.size
        clear c0 c1 c2 c3 c4 c5 c6 c7 c8 c9 c10 c11 c12 c13
        have lX := blk14c (hB.out.at_ 1 rfl)
        have lV := blk14c (hB.out.at_ 0 rfl)
        go_wp2_with fail
        clear lX lV
        refine (EKeeps_any N a Y ya _ (hN.to q101) hok.out hzr.out hkp.out.1 (ht.to q101)).mono ?_
        rintro e w102 ⟨rfl, hb1⟩
        have q102 := (after (w := w) hb1 q101).1
        have z102 := q102.size
        replace hB := hid_mk (hB.out.keep hb1)
        replace hNds := hid_mk (hNds.out.to hb1)
        replace hMgs := hid_mk (hMgs.out.to hb1)
        replace hok := hid_mk (hok.out.to hb1)
        clear hb1 q101 z101
        have lX := blk14f (hB.out.at_ 1 rfl)
        have lV := blk14f (hB.out.at_ 0 rfl)
        go_upto_region 21 with fail
        clear lX lV
        by_cases g8 : N.role = 2
        case neg =>
          have g8b : (N.role == 2) = false := by simpa using g8
          replace g8 := hid_mk g8
          have lX := blk14c (hB.out.at_ 1 rfl)
          go_quiet (fail)
          clear lX
          have hbq := below_drewN_ q102 nq
          have kq := below_drewN_ (Below.refl w102.heap.size w102) nq
          replace hB := hid_mk (hB.out.keep kq)
          replace hNds := hid_mk (hNds.out.to kq)
          replace hMgs := hid_mk (hMgs.out.to kq)
          obtain ⟨wq, hwq⟩ : ∃ u, w102.drewN nq = u := ⟨_, rfl⟩
          rw [hwq] at hbq hB hNds hMgs ⊢
          clear hwq kq
          replace hB := hid_mk hB.out.tail
          go_wp2_with fail
          go_roundw
          case rel => exact ⟨k + 1, by go_num, by omega, hbq, hNds, hMgs, hB⟩
          case measure => simp [intOf]; omega
        have g8b : (N.role == 2) = true := by simpa using g8
        have hh := hkp.out.2 g8
        replace g8 := hid_mk g8
        have hyl := hok.out.recs.len
        have hr1 : a.R.n ≤ ya.R.n := by have := hh.1; rw [hlN.out] at this; omega
        have hr2 : a.R.n ≤ ya.R.c := Nat.le_trans hr1 hok.out.rc
        have u1 : decide ((ya.R.n : Int) < (a.R.n : Int)) = false := by rw [decide_eq_false_iff_not]; omega
        have u2 : (a.R.n : Int) ≤ (ya.R.c : Int) := by omega
        have u0 : ¬ ya.R.n < a.R.n := by omega
        have u4 : decide (ya.R.n < a.R.n) = false := by simpa using u0
        have u3 : (0 : Int) ≤ (a.R.n : Int) := by omega
        have hry : Hid (Recs w102 w.heap.size ya.R.A a.R.n N.h.l.rs) := by
          have h := hok.out.recs.take (k := a.R.n) hr1
          have e := hh.2
          rw [hlN.out] at e
          rw [e] at h
          exact h
        clear hh hyl
        have lX := blk14c (hB.out.at_ 1 rfl)
        have lV := blk14c (hB.out.at_ 0 rfl)
        go_quiet ((go_at_call 37; exact Calls.quiet_of (LikeRec_q ya.R.A a.R.n _ a.R.A a.R.n _ N.h.l.rs _ (B := w.heap.size) (B' := w.heap.size) (by omega) (hry.out.to (below_drewN_ (Below.refl w102.heap.size w102) _)) (hN.recs.to (below_drewN_ q102 _)))))
        clear lX lV
        have hbq := below_drewN_ q102 nq
        have kq := below_drewN_ (Below.refl w102.heap.size w102) nq
        replace hB := hid_mk (hB.out.keep kq)
        replace hNds := hid_mk (hNds.out.to kq)
        replace hMgs := hid_mk (hMgs.out.to kq)
        obtain ⟨wq, hwq⟩ : ∃ u, w102.drewN nq = u := ⟨_, rfl⟩
        rw [hwq] at hbq hB hNds hMgs ⊢
        clear hwq kq
        replace hB := hid_mk hB.out.tail
        go_wp2_with fail
        go_roundw
        case rel => exact ⟨k + 1, by go_num, by omega, hbq, hNds, hMgs, hB⟩
        case measure => simp [intOf]; omega
    · as_aux_lemma =>
        have k1 : ¬ (k : Int) < 3 := by omega
        obtain ⟨AZ, hAZ⟩ : ∃ z, AS = z := ⟨_, rfl⟩
        rw [hAZ] at hMgs ⊢
        replace hAZ := hid_mk hAZ
        go_wp2
        go_loopw [145] (fun iv wr => ∃ j : Nat, iv = .int .i64 j ∧ j ≤ nS ∧ Below w.heap.size w wr ∧ Hid (Mgs wr w.heap.size AZ nS PP) ∧ Hid (Bxs w.heap.size wr [⟨w.heap.size, 30, ndC N a⟩])) (fun iv _ => nS - (intOf iv).toNat)
        case atStart => exact ⟨0, rfl, by omega, qr, hMgs, hB⟩
        case round =>
          clear hB hNds hMgs qr zr
          obtain ⟨j, rfl, hj, qy, hMgs, hB⟩ := hrel
          have zy := qy.size
          by_cases hlt2 : j < nS
          · skip
            obtain ⟨bo, oo, p, rfl, hbb, hdr, hok, c0, c1, c2, c3, c4, c5, c6, c7, c8, c9, c10⟩ := hMgs.out.at_ hlt2
            have hmq := hmy.out p (List.mem_of_mem_drop (by rw [hdr]; exact .head _))
            obtain ⟨Q, qa⟩ := p
            dsimp only at hok hmq c0 c1 c2 c3 c4 c5 c6 c7 c8 c9 c10
            have hok := hid_mk hok
            have j0 : (0 : Int) ≤ j := by omega
            have j1 : (j : Int) < nS := by omega
            have hEM := fun (w1 : World) (h1 : MsOk w1 w.heap.size Q qa) => EMay_any Q qa w1 h1
            rw [hmq.1] at hEM
            unfold msgV at hEM
            have m2 : (Q.fr != N.id) = false := by simp [hmq.2.1]
            have m3 : (Q.term != N.h.t) = false := by simp [hmq.2.2]
            clear hdr hmq
            have lX := blk14c (hB.out.at_ 0 rfl)
            obtain ⟨gU, hgU⟩ : ∃ g, wr.heap.size = g := ⟨_, rfl⟩
            have lgU : w.heap.size ≤ gU := by rw [← hgU]; exact qy.size
            replace hB := hid_mk (hB.out.add_ hgU lgU 32 (#[.int .i64 Q.kind, .int .i64 Q.fr, .int .i64 Q.to, .int .i64 Q.term, .bool Q.ok, .int .i64 Q.index, .int .i64 Q.lterm, .slice qa.R.A qa.R.n qa.R.c, .int .i64 Q.commit, .string Q.s, .slice qa.V.A qa.V.n qa.V.c]))
            replace hMgs := hid_mk (hMgs.out.to ((Below.refl _ wr).alloc (Nat.le_refl _) (.cells (#[.int .i64 Q.kind, .int .i64 Q.fr, .int .i64 Q.to, .int .i64 Q.term, .bool Q.ok, .int .i64 Q.index, .int .i64 Q.lterm, .slice qa.R.A qa.R.n qa.R.c, .int .i64 Q.commit, .string Q.s, .slice qa.V.A qa.V.n qa.V.c]) 32)))
            replace hok := hid_mk (hok.out.to ((Below.refl _ wr).alloc (Nat.le_refl _) (.cells (#[.int .i64 Q.kind, .int .i64 Q.fr, .int .i64 Q.to, .int .i64 Q.term, .bool Q.ok, .int .i64 Q.index, .int .i64 Q.lterm, .slice qa.R.A qa.R.n qa.R.c, .int .i64 Q.commit, .string Q.s, .slice qa.V.A qa.V.n qa.V.c]) 32)))
            have q121 := qy.alloc qy.size (.cells (#[.int .i64 Q.kind, .int .i64 Q.fr, .int .i64 Q.to, .int .i64 Q.term, .bool Q.ok, .int .i64 Q.index, .int .i64 Q.lterm, .slice qa.R.A qa.R.n qa.R.c, .int .i64 Q.commit, .string Q.s, .slice qa.V.A qa.V.n qa.V.c]) 32)
            obtain ⟨w121, hw121⟩ : ∃ x, wr.alloc (.cells (#[.int .i64 Q.kind, .int .i64 Q.fr, .int .i64 Q.to, .int .i64 Q.term, .bool Q.ok, .int .i64 Q.index, .int .i64 Q.lterm, .slice qa.R.A qa.R.n qa.R.c, .int .i64 Q.commit, .string Q.s, .slice qa.V.A qa.V.n qa.V.c]) 32) = x := ⟨_, rfl⟩
            rw [hw121] at hB hMgs hok  q121
            try unfold ndC at hw121
            replace hw121 := hid_mk hw121
            replace hgU := hid_mk hgU
            go_upto_region 27 with fail
            try rw [hw121.out]
            try rw [hgU.out]
            clear lX hw121 hgU qy zy
            have z121 := q121.size
            clear c0 c1 c2 c3 c4 c5 c6 c7 c8 c9 c10
            have lX := blk14c (hB.out.at_ 1 rfl)
            have lU := blk11v (hB.out.at_ 0 rfl)
            go_wp2_with fail
            clear lX lU
            refine (hEM _ hok.out).mono ?_
            rintro e w122 ⟨rfl, hb1⟩
            have q122 := (after (w := w) hb1 q121).1
            have z122 := q122.size
            replace hB := hid_mk (hB.out.keep hb1)
            replace hMgs := hid_mk (hMgs.out.to hb1)
            replace hok := hid_mk (hok.out.to hb1)
            clear hb1 q121 z121
            have lX := blk14c (hB.out.at_ 1 rfl)
            have lU := blk11v (hB.out.at_ 0 rfl)
            replace hB := hid_mk hB.out.tail
            go_wp2
            go_roundw
            case rel => exact ⟨j + 1, by go_num, by omega, q122, hMgs, hB⟩
            case measure => simp [intOf]; omega
          · skip
            have j1 : ¬ (j : Int) < nS := by omega
            go_wp2
            refine ends_ret hQ (results_tmp rfl _ _ _) rfl ?_
            exact ⟨rfl, qy⟩
end Go.Proofs.YtncdjmpdbinanaaGreatDoor
