/-
  WHAT IS PROVED HERE: the law ElectVotes returns true: how a node answers who asks for its vote, and what it makes of an answer, is what the reference tells. Conditions: the slices are of at most 2^47 elements; the library's table and MaxLen stand.
-/
import Derived.Test.YtnaindoeihnmpaaGreatDoorZLik
import Derived.Test.YtnaindoeihnmpaaGreatDoorZRVt
import Derived.Test.YtnaindoeihnmpaaGreatDoorZRCt
import Derived.Test.YtnaindoeihnmpaaGreatDoorZEl2
import Derived.Test.YtnaindoeihnmpaaGreatDoorZLaw17s
namespace Go.Proofs.YtnaindoeihnmpaaGreatDoor
open Go.RowKit

theorem vote_lenK (N : Nd) (M : Ms) : (voteL N M).length ≤ 1 := by
  unfold voteL
  split <;> simp
set_option maxRecDepth 100000 in
set_option maxHeartbeats 12800000 in
theorem LawVotes_any (N : Nd) (a : NdA) (M : Ms) (b : MsA) (d : Int) (w : World) (hN : NdOk w w.heap.size N a) (hMs : MsOk w w.heap.size M b) (ht : Tab w) (mm : Int) (hm : w.cell? ⟨0, 0, none⟩ = some (.int .i64 mm)) :
    Calls Tryz.prog 4 #[nodeV N a, msgV M b, .int .i64 d] w fun e w' => e = .returned (.bool true) ∧ Below w.heap.size w w' := by
  have hm2 : Hid (∀ w', Below w.heap.size w w' → w'.cell? ⟨0, 0, none⟩ = some (.int .i64 mm)) := fun w' hb => (hb.cell (p := ⟨0, 0, none⟩) (cell_lt hm)).trans hm
  clear hm
  obtain ⟨z, hz⟩ : ∃ z, smallB N M = z := ⟨_, rfl⟩
  obtain ⟨zr, hzr⟩ : ∃ z, rightN N = z := ⟨_, rfl⟩
  replace hz := hid_mk hz
  replace hzr := hid_mk hzr
  obtain ⟨N1, hN1⟩ : ∃ z, voteN N M d = z := ⟨_, rfl⟩
  obtain ⟨L, hL⟩ : ∃ z, voteL N M = z := ⟨_, rfl⟩
  obtain ⟨N4, hN4⟩ : ∃ z, countN N M = z := ⟨_, rfl⟩
  obtain ⟨W4, hW4⟩ : ∃ z, countW N M = z := ⟨_, rfl⟩
  have hok1 : Hid (NdOk w w.heap.size N1 a) := by rw [← hN1]; exact voteOk hN M d
  have hL1n : Hid (L.length ≤ 1) := by rw [← hL]; exact vote_lenK N M
  have hno : Hid (zr = false → N1 = N ∧ L = [] ∧ N4 = N ∧ W4 = false) := fun e => by
    have hr : rightN N = false := hzr.out.trans e
    have hp : voteP N M = false := by unfold voteP; rw [hr]; rfl
    have hc : countC N M = false := by unfold countC; rw [hr]; rfl
    rw [← hN1, ← hL, ← hN4, ← hW4]
    unfold voteN voteL countN countW
    rw [hp, hc]
    exact ⟨rfl, rfl, rfl, rfl⟩
  replace hN1 := hid_mk hN1
  replace hL := hid_mk hL
  replace hN4 := hid_mk hN4
  replace hW4 := hid_mk hW4
  have hX := hid_mk ((Blk.new w 30 #[.int .i64 N.id, .int .i64 N.h.t, .int .i64 N.h.v, .int .i64 N.h.l.base, .int .i64 N.h.l.bt, .slice a.R.A a.R.n a.R.c, .string N.h.s, .slice a.V.A a.V.n a.V.c, .int .i64 N.role, .int .i64 N.lead, .int .i64 N.timer, .int .i64 N.commit, .slice a.G.A a.G.n a.G.c, .slice a.P.A a.P.n a.P.c]).alloc (.cells #[.int .i64 M.kind, .int .i64 M.fr, .int .i64 M.to, .int .i64 M.term, .bool M.ok, .int .i64 M.index, .int .i64 M.lterm, .slice b.R.A b.R.n b.R.c, .int .i64 M.commit, .string M.s, .slice b.V.A b.V.n b.V.c] 33))
  have hB : Hid (Blk ((w.alloc (.cells #[.int .i64 N.id, .int .i64 N.h.t, .int .i64 N.h.v, .int .i64 N.h.l.base, .int .i64 N.h.l.bt, .slice a.R.A a.R.n a.R.c, .string N.h.s, .slice a.V.A a.V.n a.V.c, .int .i64 N.role, .int .i64 N.lead, .int .i64 N.timer, .int .i64 N.commit, .slice a.G.A a.G.n a.G.c, .slice a.P.A a.P.n a.P.c] 30)).alloc (.cells #[.int .i64 M.kind, .int .i64 M.fr, .int .i64 M.to, .int .i64 M.term, .bool M.ok, .int .i64 M.index, .int .i64 M.lterm, .slice b.R.A b.R.n b.R.c, .int .i64 M.commit, .string M.s, .slice b.V.A b.V.n b.V.c] 33)) (w.heap.size + 1) 33 #[.int .i64 M.kind, .int .i64 M.fr, .int .i64 M.to, .int .i64 M.term, .bool M.ok, .int .i64 M.index, .int .i64 M.lterm, .slice b.R.A b.R.n b.R.c, .int .i64 M.commit, .string M.s, .slice b.V.A b.V.n b.V.c]) := Blk.new_ (by simp)
  unfold nodeV msgV
  refine calls_of_wpQ Tryz.func4 rfl ?_
  intro Q hQ
  simp only [Tryz.ntmps4, List.size_toArray, List.length_cons, List.length_nil, Nat.reduceAdd, Nat.reduceSub, Array.replicate_succ, Array.replicate_zero, List.push_toArray, List.append_toArray, List.nil_append, List.cons_append]
  go_wp2_with fail
  go_wp2_with fail
  refine (small_any N a M b _ (B := w.heap.size) (hN.to (by go_grown)) (hMs.to (by go_grown))).mono ?_
  rw [hz.out]
  rintro e w1 ⟨rfl, hb1⟩
  have q1 := (after (w := w) hb1 (by go_grown)).1
  have z1 := q1.size
  replace hX := hid_mk (hX.out.keep (after hb1 (by go_grown)).1)
  replace hB := hid_mk (hB.out.keep (after hb1 (by go_grown)).1)
  clear hb1
  cases z
  case false =>
    go_wp2
    refine ends_ret hQ (results_tmp rfl _ _ _) rfl ?_
    exact ⟨rfl, q1⟩
  obtain ⟨xl, x0, x1, x2, x3, x4, x5, x6, x7, x8, x9, x10, x11, x12, x13⟩ := blk14c hX.out
  obtain ⟨ml, m0, m1, m2, m3, m4, m5, m6, m7, m8, m9, m10⟩ := blk11v hB.out
  go_wp2_with fail
  clear xl x0 x1 x2 x3 x4 x5 x6 x7 x8 x9 x10 x11 x12 x13
  clear ml m0 m1 m2 m3 m4 m5 m6 m7 m8 m9 m10
  refine (Vote_any N a M b d _ (B := w.heap.size) (hN.to (by go_grown)) (hMs.to (by go_grown)) (ht.to (by go_grown))).mono ?_
  rw [hN1.out, hL.out]
  rintro e w2 ⟨⟨A1, n1, c1, rfl, hL1, hc1⟩, hb1⟩
  have q2 := (after (w := w) hb1 (by go_grown)).1
  have z2 := q2.size
  replace hX := hid_mk (hX.out.keep (after hb1 (by go_grown)).1)
  replace hB := hid_mk (hB.out.keep (after hb1 (by go_grown)).1)
  clear hb1
  replace hL1 := hid_mk hL1
  unfold nodeV
  obtain ⟨gA, hgA⟩ : ∃ g, w2.heap.size = g := ⟨_, rfl⟩
  replace hX := hid_mk (hX.out.alloc (.cells #[.int .i64 N1.id, .int .i64 N1.h.t, .int .i64 N1.h.v, .int .i64 N1.h.l.base, .int .i64 N1.h.l.bt, .slice a.R.A a.R.n a.R.c, .string N1.h.s, .slice a.V.A a.V.n a.V.c, .int .i64 N1.role, .int .i64 N1.lead, .int .i64 N1.timer, .int .i64 N1.commit, .slice a.G.A a.G.n a.G.c, .slice a.P.A a.P.n a.P.c] 30))
  replace hB := hid_mk (hB.out.alloc (.cells #[.int .i64 N1.id, .int .i64 N1.h.t, .int .i64 N1.h.v, .int .i64 N1.h.l.base, .int .i64 N1.h.l.bt, .slice a.R.A a.R.n a.R.c, .string N1.h.s, .slice a.V.A a.V.n a.V.c, .int .i64 N1.role, .int .i64 N1.lead, .int .i64 N1.timer, .int .i64 N1.commit, .slice a.G.A a.G.n a.G.c, .slice a.P.A a.P.n a.P.c] 30))
  replace hL1 := hid_mk (hL1.out.to ((Below.refl _ _).alloc (Nat.le_refl _) (.cells #[.int .i64 N1.id, .int .i64 N1.h.t, .int .i64 N1.h.v, .int .i64 N1.h.l.base, .int .i64 N1.h.l.bt, .slice a.R.A a.R.n a.R.c, .string N1.h.s, .slice a.V.A a.V.n a.V.c, .int .i64 N1.role, .int .i64 N1.lead, .int .i64 N1.timer, .int .i64 N1.commit, .slice a.G.A a.G.n a.G.c, .slice a.P.A a.P.n a.P.c] 30)))
  have hA : Hid (Blk (w2.alloc (.cells #[.int .i64 N1.id, .int .i64 N1.h.t, .int .i64 N1.h.v, .int .i64 N1.h.l.base, .int .i64 N1.h.l.bt, .slice a.R.A a.R.n a.R.c, .string N1.h.s, .slice a.V.A a.V.n a.V.c, .int .i64 N1.role, .int .i64 N1.lead, .int .i64 N1.timer, .int .i64 N1.commit, .slice a.G.A a.G.n a.G.c, .slice a.P.A a.P.n a.P.c] 30)) gA 30 #[.int .i64 N1.id, .int .i64 N1.h.t, .int .i64 N1.h.v, .int .i64 N1.h.l.base, .int .i64 N1.h.l.bt, .slice a.R.A a.R.n a.R.c, .string N1.h.s, .slice a.V.A a.V.n a.V.c, .int .i64 N1.role, .int .i64 N1.lead, .int .i64 N1.timer, .int .i64 N1.commit, .slice a.G.A a.G.n a.G.c, .slice a.P.A a.P.n a.P.c]) := by rw [← hgA]; exact Blk.new _ _ _
  replace hgA := hid_mk hgA
  obtain ⟨xl, x0, x1, x2, x3, x4, x5, x6, x7, x8, x9, x10, x11, x12, x13⟩ := blk14c hX.out
  obtain ⟨ml, m0, m1, m2, m3, m4, m5, m6, m7, m8, m9, m10⟩ := blk11v hB.out
  go_wp2_with fail
  try rw [hgA.out]
  clear xl x0 x1 x2 x3 x4 x5 x6 x7 x8 x9 x10 x11 x12 x13
  clear ml m0 m1 m2 m3 m4 m5 m6 m7 m8 m9 m10
  refine (Count_any N a M b _ (B := w.heap.size) (by first | exact z2 | (simp only [World.size_alloc]; omega)) (hN.to (by go_grown)) (hMs.to (by go_grown)) (ht.to (by go_grown)) mm (hm2.out _ (by go_grown))).mono ?_
  rw [hN4.out, hW4.out]
  rintro e w3 ⟨⟨a4, rfl, hok4⟩, hb1⟩
  have q3 := (after (w := w) hb1 (by go_grown)).1
  have z3 := q3.size
  replace hX := hid_mk (hX.out.keep (after hb1 (by go_grown)).1)
  replace hB := hid_mk (hB.out.keep (after hb1 (by go_grown)).1)
  replace hA := hid_mk (hA.out.keep (after hb1 (by go_grown)).1)
  replace hL1 := hid_mk (hL1.out.to (after hb1 (by go_grown)).1)
  clear hb1
  replace hok4 := hid_mk hok4
  unfold nodeV
  obtain ⟨gC, hgC⟩ : ∃ g, w3.heap.size = g := ⟨_, rfl⟩
  replace hX := hid_mk (hX.out.alloc (.cells #[.int .i64 N4.id, .int .i64 N4.h.t, .int .i64 N4.h.v, .int .i64 N4.h.l.base, .int .i64 N4.h.l.bt, .slice a4.R.A a4.R.n a4.R.c, .string N4.h.s, .slice a4.V.A a4.V.n a4.V.c, .int .i64 N4.role, .int .i64 N4.lead, .int .i64 N4.timer, .int .i64 N4.commit, .slice a4.G.A a4.G.n a4.G.c, .slice a4.P.A a4.P.n a4.P.c] 30))
  replace hB := hid_mk (hB.out.alloc (.cells #[.int .i64 N4.id, .int .i64 N4.h.t, .int .i64 N4.h.v, .int .i64 N4.h.l.base, .int .i64 N4.h.l.bt, .slice a4.R.A a4.R.n a4.R.c, .string N4.h.s, .slice a4.V.A a4.V.n a4.V.c, .int .i64 N4.role, .int .i64 N4.lead, .int .i64 N4.timer, .int .i64 N4.commit, .slice a4.G.A a4.G.n a4.G.c, .slice a4.P.A a4.P.n a4.P.c] 30))
  replace hA := hid_mk (hA.out.alloc (.cells #[.int .i64 N4.id, .int .i64 N4.h.t, .int .i64 N4.h.v, .int .i64 N4.h.l.base, .int .i64 N4.h.l.bt, .slice a4.R.A a4.R.n a4.R.c, .string N4.h.s, .slice a4.V.A a4.V.n a4.V.c, .int .i64 N4.role, .int .i64 N4.lead, .int .i64 N4.timer, .int .i64 N4.commit, .slice a4.G.A a4.G.n a4.G.c, .slice a4.P.A a4.P.n a4.P.c] 30))
  replace hL1 := hid_mk (hL1.out.to ((Below.refl _ _).alloc (Nat.le_refl _) (.cells #[.int .i64 N4.id, .int .i64 N4.h.t, .int .i64 N4.h.v, .int .i64 N4.h.l.base, .int .i64 N4.h.l.bt, .slice a4.R.A a4.R.n a4.R.c, .string N4.h.s, .slice a4.V.A a4.V.n a4.V.c, .int .i64 N4.role, .int .i64 N4.lead, .int .i64 N4.timer, .int .i64 N4.commit, .slice a4.G.A a4.G.n a4.G.c, .slice a4.P.A a4.P.n a4.P.c] 30)))
  replace hok4 := hid_mk (hok4.out.to ((Below.refl _ _).alloc (Nat.le_refl _) (.cells #[.int .i64 N4.id, .int .i64 N4.h.t, .int .i64 N4.h.v, .int .i64 N4.h.l.base, .int .i64 N4.h.l.bt, .slice a4.R.A a4.R.n a4.R.c, .string N4.h.s, .slice a4.V.A a4.V.n a4.V.c, .int .i64 N4.role, .int .i64 N4.lead, .int .i64 N4.timer, .int .i64 N4.commit, .slice a4.G.A a4.G.n a4.G.c, .slice a4.P.A a4.P.n a4.P.c] 30)))
  have hC : Hid (Blk (w3.alloc (.cells #[.int .i64 N4.id, .int .i64 N4.h.t, .int .i64 N4.h.v, .int .i64 N4.h.l.base, .int .i64 N4.h.l.bt, .slice a4.R.A a4.R.n a4.R.c, .string N4.h.s, .slice a4.V.A a4.V.n a4.V.c, .int .i64 N4.role, .int .i64 N4.lead, .int .i64 N4.timer, .int .i64 N4.commit, .slice a4.G.A a4.G.n a4.G.c, .slice a4.P.A a4.P.n a4.P.c] 30)) gC 30 #[.int .i64 N4.id, .int .i64 N4.h.t, .int .i64 N4.h.v, .int .i64 N4.h.l.base, .int .i64 N4.h.l.bt, .slice a4.R.A a4.R.n a4.R.c, .string N4.h.s, .slice a4.V.A a4.V.n a4.V.c, .int .i64 N4.role, .int .i64 N4.lead, .int .i64 N4.timer, .int .i64 N4.commit, .slice a4.G.A a4.G.n a4.G.c, .slice a4.P.A a4.P.n a4.P.c]) := by rw [← hgC]; exact Blk.new _ _ _
  replace hgC := hid_mk hgC
  obtain ⟨xl, x0, x1, x2, x3, x4, x5, x6, x7, x8, x9, x10, x11, x12, x13⟩ := blk14c hX.out
  go_wp2_with fail
  try rw [hgC.out]
  clear xl x0 x1 x2 x3 x4 x5 x6 x7 x8 x9 x10 x11 x12 x13
  refine (NRight_any N a _ (B := w.heap.size) (hN.to (by go_grown)) (ht.to (by go_grown))).mono ?_
  rw [hzr.out]
  rintro e w4 ⟨rfl, hb1⟩
  have q4 := (after (w := w) hb1 (by go_grown)).1
  have z4 := q4.size
  replace hX := hid_mk (hX.out.keep (after hb1 (by go_grown)).1)
  replace hB := hid_mk (hB.out.keep (after hb1 (by go_grown)).1)
  replace hA := hid_mk (hA.out.keep (after hb1 (by go_grown)).1)
  replace hC := hid_mk (hC.out.keep (after hb1 (by go_grown)).1)
  replace hL1 := hid_mk (hL1.out.to (after hb1 (by go_grown)).1)
  replace hok4 := hid_mk (hok4.out.to (after hb1 (by go_grown)).1)
  clear hb1
  cases zr
  case false =>
    obtain ⟨e1, e2, e3, e4⟩ := hno.out rfl
    subst e1 e2 e3 e4
    have hn0 : 0 = n1 := hL1.out.len
    subst hn0
    go_wp2_with fail
    refine (alive_any _ (ht.to (by go_grown))).mono ?_
    rintro e w5 ⟨rfl, hb1⟩
    have q5 := (after (w := w) hb1 (by go_grown)).1
    have z5 := q5.size
    replace hX := hid_mk (hX.out.keep (after hb1 (by go_grown)).1)
    replace hB := hid_mk (hB.out.keep (after hb1 (by go_grown)).1)
    replace hA := hid_mk (hA.out.keep (after hb1 (by go_grown)).1)
    replace hC := hid_mk (hC.out.keep (after hb1 (by go_grown)).1)
    replace hL1 := hid_mk (hL1.out.to (after hb1 (by go_grown)).1)
    replace hok4 := hid_mk (hok4.out.to (after hb1 (by go_grown)).1)
    clear hb1
    obtain ⟨xl, x0, x1, x2, x3, x4, x5, x6, x7, x8, x9, x10, x11, x12, x13⟩ := blk14c hX.out
    obtain ⟨pl, p0, p1, p2, p3, p4, p5, p6, p7, p8, p9, p10, p11, p12, p13⟩ := blk14c hA.out
    obtain ⟨sl, s0, s1, s2, s3, s4, s5, s6, s7, s8, s9, s10, s11, s12, s13⟩ := blk14c hC.out
    go_wp2_with fail
    clear xl x0 x1 x2 x3 x4 x5 x6 x7 x8 x9 x10 x11 x12 x13
    clear pl p0 p1 p2 p3 p4 p5 p6 p7 p8 p9 p10 p11 p12 p13
    clear sl s0 s1 s2 s3 s4 s5 s6 s7 s8 s9 s10 s11 s12 s13
    refine (NLike_same _ _ _ _ (B := w.heap.size) (B' := w.heap.size) (hN.to (by go_grown)) (hN.to (by go_grown))).mono ?_
    rintro e w6 ⟨rfl, hb1⟩
    have q6 := (after (w := w) hb1 (by go_grown)).1
    have z6 := q6.size
    replace hX := hid_mk (hX.out.keep (after hb1 (by go_grown)).1)
    replace hB := hid_mk (hB.out.keep (after hb1 (by go_grown)).1)
    replace hA := hid_mk (hA.out.keep (after hb1 (by go_grown)).1)
    replace hC := hid_mk (hC.out.keep (after hb1 (by go_grown)).1)
    replace hL1 := hid_mk (hL1.out.to (after hb1 (by go_grown)).1)
    replace hok4 := hid_mk (hok4.out.to (after hb1 (by go_grown)).1)
    clear hb1
    obtain ⟨xl, x0, x1, x2, x3, x4, x5, x6, x7, x8, x9, x10, x11, x12, x13⟩ := blk14c hX.out
    obtain ⟨pl, p0, p1, p2, p3, p4, p5, p6, p7, p8, p9, p10, p11, p12, p13⟩ := blk14c hA.out
    obtain ⟨sl, s0, s1, s2, s3, s4, s5, s6, s7, s8, s9, s10, s11, s12, s13⟩ := blk14c hC.out
    go_wp2_with fail
    clear xl x0 x1 x2 x3 x4 x5 x6 x7 x8 x9 x10 x11 x12 x13
    clear pl p0 p1 p2 p3 p4 p5 p6 p7 p8 p9 p10 p11 p12 p13
    clear sl s0 s1 s2 s3 s4 s5 s6 s7 s8 s9 s10 s11 s12 s13
    refine (NLike_same _ a4 _ _ (B := w.heap.size) (B' := w.heap.size) (hok4.out.to (by go_grown)) (hN.to (by go_grown))).mono ?_
    rintro e w7 ⟨rfl, hb1⟩
    have q7 := (after (w := w) hb1 (by go_grown)).1
    have z7 := q7.size
    replace hX := hid_mk (hX.out.keep (after hb1 (by go_grown)).1)
    replace hB := hid_mk (hB.out.keep (after hb1 (by go_grown)).1)
    replace hA := hid_mk (hA.out.keep (after hb1 (by go_grown)).1)
    replace hC := hid_mk (hC.out.keep (after hb1 (by go_grown)).1)
    replace hL1 := hid_mk (hL1.out.to (after hb1 (by go_grown)).1)
    replace hok4 := hid_mk (hok4.out.to (after hb1 (by go_grown)).1)
    clear hb1
    go_wp2
    refine ends_ret hQ (results_tmp rfl _ _ _) rfl ?_
    exact ⟨rfl, q7⟩
  case true => as_aux_lemma =>
    clear hno
    have hn43 : n1 ≤ 8796093022208 := by
      have h1 := hL1.out.len
      rw [List.length_map] at h1
      have h2 := hL1n.out
      omega
    obtain ⟨xl, x0, x1, x2, x3, x4, x5, x6, x7, x8, x9, x10, x11, x12, x13⟩ := blk14c hX.out
    obtain ⟨ml, m0, m1, m2, m3, m4, m5, m6, m7, m8, m9, m10⟩ := blk11v hB.out
    go_wp2_with fail
    clear xl x0 x1 x2 x3 x4 x5 x6 x7 x8 x9 x10 x11 x12 x13
    clear ml m0 m1 m2 m3 m4 m5 m6 m7 m8 m9 m10
    refine (RVote_any N a M b d _ (B := w.heap.size) (hN.to (by go_grown)) (hMs.to (by go_grown)) hzr.out).mono ?_
    rw [hN1.out, hL.out]
    rintro e w5 ⟨⟨A3, n3, c3, rfl, hL3, hc3⟩, hb1⟩
    have q5 := (after (w := w) hb1 (by go_grown)).1
    have z5 := q5.size
    replace hX := hid_mk (hX.out.keep (after hb1 (by go_grown)).1)
    replace hB := hid_mk (hB.out.keep (after hb1 (by go_grown)).1)
    replace hA := hid_mk (hA.out.keep (after hb1 (by go_grown)).1)
    replace hC := hid_mk (hC.out.keep (after hb1 (by go_grown)).1)
    replace hL1 := hid_mk (hL1.out.to (after hb1 (by go_grown)).1)
    replace hok4 := hid_mk (hok4.out.to (after hb1 (by go_grown)).1)
    clear hb1
    replace hL3 := hid_mk hL3
    unfold nodeV
    obtain ⟨gD, hgD⟩ : ∃ g, w5.heap.size = g := ⟨_, rfl⟩
    replace hX := hid_mk (hX.out.alloc (.cells #[.int .i64 N1.id, .int .i64 N1.h.t, .int .i64 N1.h.v, .int .i64 N1.h.l.base, .int .i64 N1.h.l.bt, .slice a.R.A a.R.n a.R.c, .string N1.h.s, .slice a.V.A a.V.n a.V.c, .int .i64 N1.role, .int .i64 N1.lead, .int .i64 N1.timer, .int .i64 N1.commit, .slice a.G.A a.G.n a.G.c, .slice a.P.A a.P.n a.P.c] 30))
    replace hB := hid_mk (hB.out.alloc (.cells #[.int .i64 N1.id, .int .i64 N1.h.t, .int .i64 N1.h.v, .int .i64 N1.h.l.base, .int .i64 N1.h.l.bt, .slice a.R.A a.R.n a.R.c, .string N1.h.s, .slice a.V.A a.V.n a.V.c, .int .i64 N1.role, .int .i64 N1.lead, .int .i64 N1.timer, .int .i64 N1.commit, .slice a.G.A a.G.n a.G.c, .slice a.P.A a.P.n a.P.c] 30))
    replace hA := hid_mk (hA.out.alloc (.cells #[.int .i64 N1.id, .int .i64 N1.h.t, .int .i64 N1.h.v, .int .i64 N1.h.l.base, .int .i64 N1.h.l.bt, .slice a.R.A a.R.n a.R.c, .string N1.h.s, .slice a.V.A a.V.n a.V.c, .int .i64 N1.role, .int .i64 N1.lead, .int .i64 N1.timer, .int .i64 N1.commit, .slice a.G.A a.G.n a.G.c, .slice a.P.A a.P.n a.P.c] 30))
    replace hC := hid_mk (hC.out.alloc (.cells #[.int .i64 N1.id, .int .i64 N1.h.t, .int .i64 N1.h.v, .int .i64 N1.h.l.base, .int .i64 N1.h.l.bt, .slice a.R.A a.R.n a.R.c, .string N1.h.s, .slice a.V.A a.V.n a.V.c, .int .i64 N1.role, .int .i64 N1.lead, .int .i64 N1.timer, .int .i64 N1.commit, .slice a.G.A a.G.n a.G.c, .slice a.P.A a.P.n a.P.c] 30))
    replace hL1 := hid_mk (hL1.out.to ((Below.refl _ _).alloc (Nat.le_refl _) (.cells #[.int .i64 N1.id, .int .i64 N1.h.t, .int .i64 N1.h.v, .int .i64 N1.h.l.base, .int .i64 N1.h.l.bt, .slice a.R.A a.R.n a.R.c, .string N1.h.s, .slice a.V.A a.V.n a.V.c, .int .i64 N1.role, .int .i64 N1.lead, .int .i64 N1.timer, .int .i64 N1.commit, .slice a.G.A a.G.n a.G.c, .slice a.P.A a.P.n a.P.c] 30)))
    replace hok4 := hid_mk (hok4.out.to ((Below.refl _ _).alloc (Nat.le_refl _) (.cells #[.int .i64 N1.id, .int .i64 N1.h.t, .int .i64 N1.h.v, .int .i64 N1.h.l.base, .int .i64 N1.h.l.bt, .slice a.R.A a.R.n a.R.c, .string N1.h.s, .slice a.V.A a.V.n a.V.c, .int .i64 N1.role, .int .i64 N1.lead, .int .i64 N1.timer, .int .i64 N1.commit, .slice a.G.A a.G.n a.G.c, .slice a.P.A a.P.n a.P.c] 30)))
    replace hL3 := hid_mk (hL3.out.to ((Below.refl _ _).alloc (Nat.le_refl _) (.cells #[.int .i64 N1.id, .int .i64 N1.h.t, .int .i64 N1.h.v, .int .i64 N1.h.l.base, .int .i64 N1.h.l.bt, .slice a.R.A a.R.n a.R.c, .string N1.h.s, .slice a.V.A a.V.n a.V.c, .int .i64 N1.role, .int .i64 N1.lead, .int .i64 N1.timer, .int .i64 N1.commit, .slice a.G.A a.G.n a.G.c, .slice a.P.A a.P.n a.P.c] 30)))
    have hD : Hid (Blk (w5.alloc (.cells #[.int .i64 N1.id, .int .i64 N1.h.t, .int .i64 N1.h.v, .int .i64 N1.h.l.base, .int .i64 N1.h.l.bt, .slice a.R.A a.R.n a.R.c, .string N1.h.s, .slice a.V.A a.V.n a.V.c, .int .i64 N1.role, .int .i64 N1.lead, .int .i64 N1.timer, .int .i64 N1.commit, .slice a.G.A a.G.n a.G.c, .slice a.P.A a.P.n a.P.c] 30)) gD 30 #[.int .i64 N1.id, .int .i64 N1.h.t, .int .i64 N1.h.v, .int .i64 N1.h.l.base, .int .i64 N1.h.l.bt, .slice a.R.A a.R.n a.R.c, .string N1.h.s, .slice a.V.A a.V.n a.V.c, .int .i64 N1.role, .int .i64 N1.lead, .int .i64 N1.timer, .int .i64 N1.commit, .slice a.G.A a.G.n a.G.c, .slice a.P.A a.P.n a.P.c]) := by rw [← hgD]; exact Blk.new _ _ _
    replace hgD := hid_mk hgD
    obtain ⟨xl, x0, x1, x2, x3, x4, x5, x6, x7, x8, x9, x10, x11, x12, x13⟩ := blk14c hX.out
    obtain ⟨ml, m0, m1, m2, m3, m4, m5, m6, m7, m8, m9, m10⟩ := blk11v hB.out
    go_wp2_with fail
    try rw [hgD.out]
    clear xl x0 x1 x2 x3 x4 x5 x6 x7 x8 x9 x10 x11 x12 x13
    clear ml m0 m1 m2 m3 m4 m5 m6 m7 m8 m9 m10
    refine (RCount_any N a M b _ (B := w.heap.size) (by first | exact z5 | (simp only [World.size_alloc]; omega)) (hN.to (by go_grown)) (hMs.to (by go_grown)) hzr.out).mono ?_
    rw [hN4.out, hW4.out]
    rintro e w6 ⟨⟨a5, rfl, hok5⟩, hb1⟩
    have q6 := (after (w := w) hb1 (by go_grown)).1
    have z6 := q6.size
    replace hX := hid_mk (hX.out.keep (after hb1 (by go_grown)).1)
    replace hB := hid_mk (hB.out.keep (after hb1 (by go_grown)).1)
    replace hA := hid_mk (hA.out.keep (after hb1 (by go_grown)).1)
    replace hC := hid_mk (hC.out.keep (after hb1 (by go_grown)).1)
    replace hD := hid_mk (hD.out.keep (after hb1 (by go_grown)).1)
    replace hL1 := hid_mk (hL1.out.to (after hb1 (by go_grown)).1)
    replace hok4 := hid_mk (hok4.out.to (after hb1 (by go_grown)).1)
    replace hL3 := hid_mk (hL3.out.to (after hb1 (by go_grown)).1)
    clear hb1
    replace hok5 := hid_mk hok5
    unfold nodeV
    obtain ⟨gE, hgE⟩ : ∃ g, w6.heap.size = g := ⟨_, rfl⟩
    replace hX := hid_mk (hX.out.alloc (.cells #[.int .i64 N4.id, .int .i64 N4.h.t, .int .i64 N4.h.v, .int .i64 N4.h.l.base, .int .i64 N4.h.l.bt, .slice a5.R.A a5.R.n a5.R.c, .string N4.h.s, .slice a5.V.A a5.V.n a5.V.c, .int .i64 N4.role, .int .i64 N4.lead, .int .i64 N4.timer, .int .i64 N4.commit, .slice a5.G.A a5.G.n a5.G.c, .slice a5.P.A a5.P.n a5.P.c] 30))
    replace hB := hid_mk (hB.out.alloc (.cells #[.int .i64 N4.id, .int .i64 N4.h.t, .int .i64 N4.h.v, .int .i64 N4.h.l.base, .int .i64 N4.h.l.bt, .slice a5.R.A a5.R.n a5.R.c, .string N4.h.s, .slice a5.V.A a5.V.n a5.V.c, .int .i64 N4.role, .int .i64 N4.lead, .int .i64 N4.timer, .int .i64 N4.commit, .slice a5.G.A a5.G.n a5.G.c, .slice a5.P.A a5.P.n a5.P.c] 30))
    replace hA := hid_mk (hA.out.alloc (.cells #[.int .i64 N4.id, .int .i64 N4.h.t, .int .i64 N4.h.v, .int .i64 N4.h.l.base, .int .i64 N4.h.l.bt, .slice a5.R.A a5.R.n a5.R.c, .string N4.h.s, .slice a5.V.A a5.V.n a5.V.c, .int .i64 N4.role, .int .i64 N4.lead, .int .i64 N4.timer, .int .i64 N4.commit, .slice a5.G.A a5.G.n a5.G.c, .slice a5.P.A a5.P.n a5.P.c] 30))
    replace hC := hid_mk (hC.out.alloc (.cells #[.int .i64 N4.id, .int .i64 N4.h.t, .int .i64 N4.h.v, .int .i64 N4.h.l.base, .int .i64 N4.h.l.bt, .slice a5.R.A a5.R.n a5.R.c, .string N4.h.s, .slice a5.V.A a5.V.n a5.V.c, .int .i64 N4.role, .int .i64 N4.lead, .int .i64 N4.timer, .int .i64 N4.commit, .slice a5.G.A a5.G.n a5.G.c, .slice a5.P.A a5.P.n a5.P.c] 30))
    replace hD := hid_mk (hD.out.alloc (.cells #[.int .i64 N4.id, .int .i64 N4.h.t, .int .i64 N4.h.v, .int .i64 N4.h.l.base, .int .i64 N4.h.l.bt, .slice a5.R.A a5.R.n a5.R.c, .string N4.h.s, .slice a5.V.A a5.V.n a5.V.c, .int .i64 N4.role, .int .i64 N4.lead, .int .i64 N4.timer, .int .i64 N4.commit, .slice a5.G.A a5.G.n a5.G.c, .slice a5.P.A a5.P.n a5.P.c] 30))
    replace hL1 := hid_mk (hL1.out.to ((Below.refl _ _).alloc (Nat.le_refl _) (.cells #[.int .i64 N4.id, .int .i64 N4.h.t, .int .i64 N4.h.v, .int .i64 N4.h.l.base, .int .i64 N4.h.l.bt, .slice a5.R.A a5.R.n a5.R.c, .string N4.h.s, .slice a5.V.A a5.V.n a5.V.c, .int .i64 N4.role, .int .i64 N4.lead, .int .i64 N4.timer, .int .i64 N4.commit, .slice a5.G.A a5.G.n a5.G.c, .slice a5.P.A a5.P.n a5.P.c] 30)))
    replace hok4 := hid_mk (hok4.out.to ((Below.refl _ _).alloc (Nat.le_refl _) (.cells #[.int .i64 N4.id, .int .i64 N4.h.t, .int .i64 N4.h.v, .int .i64 N4.h.l.base, .int .i64 N4.h.l.bt, .slice a5.R.A a5.R.n a5.R.c, .string N4.h.s, .slice a5.V.A a5.V.n a5.V.c, .int .i64 N4.role, .int .i64 N4.lead, .int .i64 N4.timer, .int .i64 N4.commit, .slice a5.G.A a5.G.n a5.G.c, .slice a5.P.A a5.P.n a5.P.c] 30)))
    replace hL3 := hid_mk (hL3.out.to ((Below.refl _ _).alloc (Nat.le_refl _) (.cells #[.int .i64 N4.id, .int .i64 N4.h.t, .int .i64 N4.h.v, .int .i64 N4.h.l.base, .int .i64 N4.h.l.bt, .slice a5.R.A a5.R.n a5.R.c, .string N4.h.s, .slice a5.V.A a5.V.n a5.V.c, .int .i64 N4.role, .int .i64 N4.lead, .int .i64 N4.timer, .int .i64 N4.commit, .slice a5.G.A a5.G.n a5.G.c, .slice a5.P.A a5.P.n a5.P.c] 30)))
    replace hok5 := hid_mk (hok5.out.to ((Below.refl _ _).alloc (Nat.le_refl _) (.cells #[.int .i64 N4.id, .int .i64 N4.h.t, .int .i64 N4.h.v, .int .i64 N4.h.l.base, .int .i64 N4.h.l.bt, .slice a5.R.A a5.R.n a5.R.c, .string N4.h.s, .slice a5.V.A a5.V.n a5.V.c, .int .i64 N4.role, .int .i64 N4.lead, .int .i64 N4.timer, .int .i64 N4.commit, .slice a5.G.A a5.G.n a5.G.c, .slice a5.P.A a5.P.n a5.P.c] 30)))
    have hE : Hid (Blk (w6.alloc (.cells #[.int .i64 N4.id, .int .i64 N4.h.t, .int .i64 N4.h.v, .int .i64 N4.h.l.base, .int .i64 N4.h.l.bt, .slice a5.R.A a5.R.n a5.R.c, .string N4.h.s, .slice a5.V.A a5.V.n a5.V.c, .int .i64 N4.role, .int .i64 N4.lead, .int .i64 N4.timer, .int .i64 N4.commit, .slice a5.G.A a5.G.n a5.G.c, .slice a5.P.A a5.P.n a5.P.c] 30)) gE 30 #[.int .i64 N4.id, .int .i64 N4.h.t, .int .i64 N4.h.v, .int .i64 N4.h.l.base, .int .i64 N4.h.l.bt, .slice a5.R.A a5.R.n a5.R.c, .string N4.h.s, .slice a5.V.A a5.V.n a5.V.c, .int .i64 N4.role, .int .i64 N4.lead, .int .i64 N4.timer, .int .i64 N4.commit, .slice a5.G.A a5.G.n a5.G.c, .slice a5.P.A a5.P.n a5.P.c]) := by rw [← hgE]; exact Blk.new _ _ _
    replace hgE := hid_mk hgE
    go_wp2_with fail
    try rw [hgE.out]
    refine (alive_any _ (ht.to (by go_grown))).mono ?_
    rintro e w7 ⟨rfl, hb1⟩
    have q7 := (after (w := w) hb1 (by go_grown)).1
    have z7 := q7.size
    replace hX := hid_mk (hX.out.keep (after hb1 (by go_grown)).1)
    replace hB := hid_mk (hB.out.keep (after hb1 (by go_grown)).1)
    replace hA := hid_mk (hA.out.keep (after hb1 (by go_grown)).1)
    replace hC := hid_mk (hC.out.keep (after hb1 (by go_grown)).1)
    replace hD := hid_mk (hD.out.keep (after hb1 (by go_grown)).1)
    replace hE := hid_mk (hE.out.keep (after hb1 (by go_grown)).1)
    replace hL1 := hid_mk (hL1.out.to (after hb1 (by go_grown)).1)
    replace hok4 := hid_mk (hok4.out.to (after hb1 (by go_grown)).1)
    replace hL3 := hid_mk (hL3.out.to (after hb1 (by go_grown)).1)
    replace hok5 := hid_mk (hok5.out.to (after hb1 (by go_grown)).1)
    clear hb1
    obtain ⟨pl, p0, p1, p2, p3, p4, p5, p6, p7, p8, p9, p10, p11, p12, p13⟩ := blk14c hA.out
    obtain ⟨ul, u0, u1, u2, u3, u4, u5, u6, u7, u8, u9, u10, u11, u12, u13⟩ := blk14c hD.out
    go_wp2_with fail
    clear pl p0 p1 p2 p3 p4 p5 p6 p7 p8 p9 p10 p11 p12 p13
    clear ul u0 u1 u2 u3 u4 u5 u6 u7 u8 u9 u10 u11 u12 u13
    refine (NLike_same N1 a a _ (B := w.heap.size) (B' := w.heap.size) (hok1.out.to (by go_grown)) (hok1.out.to (by go_grown))).mono ?_
    rintro e w8 ⟨rfl, hb1⟩
    have q8 := (after (w := w) hb1 (by go_grown)).1
    have z8 := q8.size
    replace hX := hid_mk (hX.out.keep (after hb1 (by go_grown)).1)
    replace hB := hid_mk (hB.out.keep (after hb1 (by go_grown)).1)
    replace hA := hid_mk (hA.out.keep (after hb1 (by go_grown)).1)
    replace hC := hid_mk (hC.out.keep (after hb1 (by go_grown)).1)
    replace hD := hid_mk (hD.out.keep (after hb1 (by go_grown)).1)
    replace hE := hid_mk (hE.out.keep (after hb1 (by go_grown)).1)
    replace hL1 := hid_mk (hL1.out.to (after hb1 (by go_grown)).1)
    replace hok4 := hid_mk (hok4.out.to (after hb1 (by go_grown)).1)
    replace hL3 := hid_mk (hL3.out.to (after hb1 (by go_grown)).1)
    replace hok5 := hid_mk (hok5.out.to (after hb1 (by go_grown)).1)
    clear hb1
    go_wp2_with fail
    refine (LikeMsg_same A1 n1 c1 A3 n3 c3 (L.map fun M => (M, nilMA)) (L.map fun M => (M, nilMA)) _ (B := 0) (B' := 0) hn43 (hL1.out.to (by go_grown)) (hL3.out.to (by go_grown)) rfl).mono ?_
    rintro e w9 ⟨rfl, hb1⟩
    have q9 := (after (w := w) hb1 (by go_grown)).1
    have z9 := q9.size
    replace hX := hid_mk (hX.out.keep (after hb1 (by go_grown)).1)
    replace hB := hid_mk (hB.out.keep (after hb1 (by go_grown)).1)
    replace hA := hid_mk (hA.out.keep (after hb1 (by go_grown)).1)
    replace hC := hid_mk (hC.out.keep (after hb1 (by go_grown)).1)
    replace hD := hid_mk (hD.out.keep (after hb1 (by go_grown)).1)
    replace hE := hid_mk (hE.out.keep (after hb1 (by go_grown)).1)
    replace hL1 := hid_mk (hL1.out.to (after hb1 (by go_grown)).1)
    replace hok4 := hid_mk (hok4.out.to (after hb1 (by go_grown)).1)
    replace hL3 := hid_mk (hL3.out.to (after hb1 (by go_grown)).1)
    replace hok5 := hid_mk (hok5.out.to (after hb1 (by go_grown)).1)
    clear hb1
    obtain ⟨sl, s0, s1, s2, s3, s4, s5, s6, s7, s8, s9, s10, s11, s12, s13⟩ := blk14c hC.out
    obtain ⟨vl, v0, v1, v2, v3, v4, v5, v6, v7, v8, v9, v10, v11, v12, v13⟩ := blk14c hE.out
    go_wp2_with fail
    clear sl s0 s1 s2 s3 s4 s5 s6 s7 s8 s9 s10 s11 s12 s13
    clear vl v0 v1 v2 v3 v4 v5 v6 v7 v8 v9 v10 v11 v12 v13
    refine (NLike_same N4 a4 a5 _ (B := w.heap.size) (B' := w.heap.size) (hok4.out.to (by go_grown)) (hok5.out.to (by go_grown))).mono ?_
    rintro e w10 ⟨rfl, hb1⟩
    have q10 := (after (w := w) hb1 (by go_grown)).1
    have z10 := q10.size
    replace hX := hid_mk (hX.out.keep (after hb1 (by go_grown)).1)
    replace hB := hid_mk (hB.out.keep (after hb1 (by go_grown)).1)
    replace hA := hid_mk (hA.out.keep (after hb1 (by go_grown)).1)
    replace hC := hid_mk (hC.out.keep (after hb1 (by go_grown)).1)
    replace hD := hid_mk (hD.out.keep (after hb1 (by go_grown)).1)
    replace hE := hid_mk (hE.out.keep (after hb1 (by go_grown)).1)
    replace hL1 := hid_mk (hL1.out.to (after hb1 (by go_grown)).1)
    replace hok4 := hid_mk (hok4.out.to (after hb1 (by go_grown)).1)
    replace hL3 := hid_mk (hL3.out.to (after hb1 (by go_grown)).1)
    replace hok5 := hid_mk (hok5.out.to (after hb1 (by go_grown)).1)
    clear hb1
    go_wp2
    refine ends_ret hQ (results_tmp rfl _ _ _) rfl ?_
    exact ⟨rfl, q10⟩
theorem LawVotes_walk {w : World} (ht : Tab w) (mm : Int) (hm : w.cell? ⟨0, 0, none⟩ = some (.int .i64 mm)) (N : Nd) (a : NdA) (hN : NdOk w w.heap.size N a) (M : Ms) (b : MsA) (hM : MsOk w w.heap.size M b) (d : Int) (_ : -9223372036854775808 ≤ d) (_ : d ≤ 9223372036854775807) :
    Calls Tryz.prog 4 #[nodeV N a, msgV M b, .int .i64 d] w fun e w' => e = .returned (.bool true) ∧ Below w.heap.size w w' := LawVotes_any N a M b d w hN hM ht mm hm
end Go.Proofs.YtnaindoeihnmpaaGreatDoor
