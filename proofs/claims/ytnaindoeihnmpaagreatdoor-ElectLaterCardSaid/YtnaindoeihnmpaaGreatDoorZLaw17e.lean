/-
  WHAT IS PROVED HERE: the law ElectLater returns true: what a node is behind a term that it sees, and when it stands up, is what the reference tells. Conditions: the slices are of at most 2^47 elements; the library's table and MaxLen stand.
-/
import Derived.Test.YtnaindoeihnmpaaGreatDoorZLik
import Derived.Test.YtnaindoeihnmpaaGreatDoorZRSt
import Derived.Test.YtnaindoeihnmpaaGreatDoorZEl2
import Derived.Test.YtnaindoeihnmpaaGreatDoorZLaw17s
namespace Go.Proofs.YtnaindoeihnmpaaGreatDoor
open Go.RowKit

theorem stand_lenK {N : Nd} (hr : rightN N = true) : (standL N).length ≤ 7 := by
  unfold standL
  split
  · have h1 := asks_len N.id (N.h.t + 1) (lastJ N.h.l) ((termJ N.h.l (lastJ N.h.l)).getD 0) (votersN N)
    have h2 := (right_len (of_right N.h.l.base N.h.l.rs (right_n hr).2.1)).2
    exact Nat.le_trans h1 h2
  · simp
set_option maxRecDepth 100000 in
set_option maxHeartbeats 12800000 in
theorem LawLater_any (N : Nd) (a : NdA) (term d : Int) (w : World) (hN : NdOk w w.heap.size N a) (ht : Tab w) (mm : Int) (hm : w.cell? ⟨0, 0, none⟩ = some (.int .i64 mm)) :
    Calls Tryz.prog 3 #[nodeV N a, .int .i64 term, .int .i64 d] w fun e w' => e = .returned (.bool true) ∧ Below w.heap.size w w' := by
  have hm2 : Hid (∀ w', Below w.heap.size w w' → w'.cell? ⟨0, 0, none⟩ = some (.int .i64 mm)) := fun w' hb => (hb.cell (p := ⟨0, 0, none⟩) (cell_lt hm)).trans hm
  clear hm
  obtain ⟨z, hz⟩ : ∃ z, smallB N ⟨0, 0, 0, 0, false, 0, 0, [], 0, ⟨#[]⟩, []⟩ = z := ⟨_, rfl⟩
  obtain ⟨zr, hzr⟩ : ∃ z, rightN N = z := ⟨_, rfl⟩
  replace hz := hid_mk hz
  replace hzr := hid_mk hzr
  obtain ⟨N1, hN1⟩ : ∃ z, laterN N term = z := ⟨_, rfl⟩
  obtain ⟨a1, ha1⟩ : ∃ z, laterA N term a = z := ⟨_, rfl⟩
  obtain ⟨N2, hN2⟩ : ∃ z, standN N d = z := ⟨_, rfl⟩
  obtain ⟨L, hL⟩ : ∃ z, standL N = z := ⟨_, rfl⟩
  obtain ⟨W2, hW2⟩ : ∃ z, standW N = z := ⟨_, rfl⟩
  have hok1 : Hid (NdOk w w.heap.size N1 a1) := by rw [← hN1, ← ha1]; exact laterOk hN term
  have hno : Hid (zr = false → N1 = N ∧ a1 = a ∧ N2 = N ∧ L = [] ∧ W2 = false) := fun e => by
    have hr : rightN N = false := hzr.out.trans e
    have hc : standC N = false := by unfold standC; rw [hr]; rfl
    have hl : laterC N term = false := by unfold laterC; rw [hr]; rfl
    rw [← hN1, ← ha1, ← hN2, ← hL, ← hW2]
    unfold laterN laterA standN standL standW
    rw [hl, hr, hc]
    exact ⟨rfl, rfl, rfl, rfl, rfl⟩
  replace hN1 := hid_mk hN1
  replace ha1 := hid_mk ha1
  replace hN2 := hid_mk hN2
  replace hL := hid_mk hL
  replace hW2 := hid_mk hW2
  have hX := hid_mk (Blk.new w 30 #[.int .i64 N.id, .int .i64 N.h.t, .int .i64 N.h.v, .int .i64 N.h.l.base, .int .i64 N.h.l.bt, .slice a.R.A a.R.n a.R.c, .string N.h.s, .slice a.V.A a.V.n a.V.c, .int .i64 N.role, .int .i64 N.lead, .int .i64 N.timer, .int .i64 N.commit, .slice a.G.A a.G.n a.G.c, .slice a.P.A a.P.n a.P.c])
  have hmso : MsOk w w.heap.size ⟨0, 0, 0, 0, false, 0, 0, [], 0, ⟨#[]⟩, []⟩ nilMA := nilMA_ok rfl rfl rfl
  unfold nodeV
  refine calls_of_wpQ Tryz.func3 rfl ?_
  intro Q hQ
  simp only [Tryz.ntmps3, List.size_toArray, List.length_cons, List.length_nil, Nat.reduceAdd, Nat.reduceSub, Array.replicate_succ, Array.replicate_zero, List.push_toArray, List.append_toArray, List.nil_append, List.cons_append]
  go_wp2_with fail
  go_wp2_with fail
  refine (small_any N a _ nilMA _ (B := w.heap.size) (hN.to (by go_grown)) (hmso.to (by go_grown))).mono ?_
  rw [hz.out]
  rintro e w1 ⟨rfl, hb1⟩
  have q1 := (after (w := w) hb1 (by go_grown)).1
  have z1 := q1.size
  replace hX := hid_mk (hX.out.keep (after hb1 (by go_grown)).1)
  clear hb1
  cases z
  case false =>
    go_wp2
    refine ends_ret hQ (results_tmp rfl _ _ _) rfl ?_
    exact ⟨rfl, q1⟩
  obtain ⟨xl, x0, x1, x2, x3, x4, x5, x6, x7, x8, x9, x10, x11, x12, x13⟩ := blk14c hX.out
  go_wp2_with fail
  clear xl x0 x1 x2 x3 x4 x5 x6 x7 x8 x9 x10 x11 x12 x13
  refine (Later_any N a term _ (B := w.heap.size) (hN.to (by go_grown)) (ht.to (by go_grown))).mono ?_
  rw [hN1.out, ha1.out]
  rintro e w2 ⟨rfl, hb1⟩
  have q2 := (after (w := w) hb1 (by go_grown)).1
  have z2 := q2.size
  replace hX := hid_mk (hX.out.keep (after hb1 (by go_grown)).1)
  clear hb1
  unfold nodeV
  obtain ⟨gA, hgA⟩ : ∃ g, w2.heap.size = g := ⟨_, rfl⟩
  replace hX := hid_mk (hX.out.alloc (.cells #[.int .i64 N1.id, .int .i64 N1.h.t, .int .i64 N1.h.v, .int .i64 N1.h.l.base, .int .i64 N1.h.l.bt, .slice a1.R.A a1.R.n a1.R.c, .string N1.h.s, .slice a1.V.A a1.V.n a1.V.c, .int .i64 N1.role, .int .i64 N1.lead, .int .i64 N1.timer, .int .i64 N1.commit, .slice a1.G.A a1.G.n a1.G.c, .slice a1.P.A a1.P.n a1.P.c] 30))
  have hA : Hid (Blk (w2.alloc (.cells #[.int .i64 N1.id, .int .i64 N1.h.t, .int .i64 N1.h.v, .int .i64 N1.h.l.base, .int .i64 N1.h.l.bt, .slice a1.R.A a1.R.n a1.R.c, .string N1.h.s, .slice a1.V.A a1.V.n a1.V.c, .int .i64 N1.role, .int .i64 N1.lead, .int .i64 N1.timer, .int .i64 N1.commit, .slice a1.G.A a1.G.n a1.G.c, .slice a1.P.A a1.P.n a1.P.c] 30)) gA 30 #[.int .i64 N1.id, .int .i64 N1.h.t, .int .i64 N1.h.v, .int .i64 N1.h.l.base, .int .i64 N1.h.l.bt, .slice a1.R.A a1.R.n a1.R.c, .string N1.h.s, .slice a1.V.A a1.V.n a1.V.c, .int .i64 N1.role, .int .i64 N1.lead, .int .i64 N1.timer, .int .i64 N1.commit, .slice a1.G.A a1.G.n a1.G.c, .slice a1.P.A a1.P.n a1.P.c]) := by rw [← hgA]; exact Blk.new _ _ _
  replace hgA := hid_mk hgA
  obtain ⟨xl, x0, x1, x2, x3, x4, x5, x6, x7, x8, x9, x10, x11, x12, x13⟩ := blk14c hX.out
  go_wp2_with fail
  try rw [hgA.out]
  clear xl x0 x1 x2 x3 x4 x5 x6 x7 x8 x9 x10 x11 x12 x13
  refine (Stand_any N a d _ (B := w.heap.size) (hN.to (by go_grown)) (ht.to (by go_grown)) mm (hm2.out _ (by go_grown))).mono ?_
  rw [hN2.out, hL.out, hW2.out]
  rintro e w3 ⟨⟨a2, A1, n1, c1, rfl, hok2, hL1, hc1⟩, hb1⟩
  have q3 := (after (w := w) hb1 (by go_grown)).1
  have z3 := q3.size
  replace hX := hid_mk (hX.out.keep (after hb1 (by go_grown)).1)
  replace hA := hid_mk (hA.out.keep (after hb1 (by go_grown)).1)
  clear hb1
  replace hok2 := hid_mk hok2
  replace hL1 := hid_mk hL1
  unfold nodeV
  obtain ⟨gC, hgC⟩ : ∃ g, w3.heap.size = g := ⟨_, rfl⟩
  replace hX := hid_mk (hX.out.alloc (.cells #[.int .i64 N2.id, .int .i64 N2.h.t, .int .i64 N2.h.v, .int .i64 N2.h.l.base, .int .i64 N2.h.l.bt, .slice a2.R.A a2.R.n a2.R.c, .string N2.h.s, .slice a2.V.A a2.V.n a2.V.c, .int .i64 N2.role, .int .i64 N2.lead, .int .i64 N2.timer, .int .i64 N2.commit, .slice a2.G.A a2.G.n a2.G.c, .slice a2.P.A a2.P.n a2.P.c] 30))
  replace hA := hid_mk (hA.out.alloc (.cells #[.int .i64 N2.id, .int .i64 N2.h.t, .int .i64 N2.h.v, .int .i64 N2.h.l.base, .int .i64 N2.h.l.bt, .slice a2.R.A a2.R.n a2.R.c, .string N2.h.s, .slice a2.V.A a2.V.n a2.V.c, .int .i64 N2.role, .int .i64 N2.lead, .int .i64 N2.timer, .int .i64 N2.commit, .slice a2.G.A a2.G.n a2.G.c, .slice a2.P.A a2.P.n a2.P.c] 30))
  replace hok2 := hid_mk (hok2.out.to ((Below.refl _ _).alloc (Nat.le_refl _) (.cells #[.int .i64 N2.id, .int .i64 N2.h.t, .int .i64 N2.h.v, .int .i64 N2.h.l.base, .int .i64 N2.h.l.bt, .slice a2.R.A a2.R.n a2.R.c, .string N2.h.s, .slice a2.V.A a2.V.n a2.V.c, .int .i64 N2.role, .int .i64 N2.lead, .int .i64 N2.timer, .int .i64 N2.commit, .slice a2.G.A a2.G.n a2.G.c, .slice a2.P.A a2.P.n a2.P.c] 30)))
  replace hL1 := hid_mk (hL1.out.to ((Below.refl _ _).alloc (Nat.le_refl _) (.cells #[.int .i64 N2.id, .int .i64 N2.h.t, .int .i64 N2.h.v, .int .i64 N2.h.l.base, .int .i64 N2.h.l.bt, .slice a2.R.A a2.R.n a2.R.c, .string N2.h.s, .slice a2.V.A a2.V.n a2.V.c, .int .i64 N2.role, .int .i64 N2.lead, .int .i64 N2.timer, .int .i64 N2.commit, .slice a2.G.A a2.G.n a2.G.c, .slice a2.P.A a2.P.n a2.P.c] 30)))
  have hC : Hid (Blk (w3.alloc (.cells #[.int .i64 N2.id, .int .i64 N2.h.t, .int .i64 N2.h.v, .int .i64 N2.h.l.base, .int .i64 N2.h.l.bt, .slice a2.R.A a2.R.n a2.R.c, .string N2.h.s, .slice a2.V.A a2.V.n a2.V.c, .int .i64 N2.role, .int .i64 N2.lead, .int .i64 N2.timer, .int .i64 N2.commit, .slice a2.G.A a2.G.n a2.G.c, .slice a2.P.A a2.P.n a2.P.c] 30)) gC 30 #[.int .i64 N2.id, .int .i64 N2.h.t, .int .i64 N2.h.v, .int .i64 N2.h.l.base, .int .i64 N2.h.l.bt, .slice a2.R.A a2.R.n a2.R.c, .string N2.h.s, .slice a2.V.A a2.V.n a2.V.c, .int .i64 N2.role, .int .i64 N2.lead, .int .i64 N2.timer, .int .i64 N2.commit, .slice a2.G.A a2.G.n a2.G.c, .slice a2.P.A a2.P.n a2.P.c]) := by rw [← hgC]; exact Blk.new _ _ _
  replace hgC := hid_mk hgC
  obtain ⟨xl, x0, x1, x2, x3, x4, x5, x6, x7, x8, x9, x10, x11, x12, x13⟩ := blk14c hX.out
  go_wp2_with fail
  try rw [hgC.out]
  clear xl x0 x1 x2 x3 x4 x5 x6 x7 x8 x9 x10 x11 x12 x13
  refine (NRight_any N a _ (B := w.heap.size) (hN.to (by go_grown)) (ht.to (by go_grown))).mono ?_
  rw [hzr.out]
  rintro e w4 ⟨rfl, hb1⟩
  have q4 := (after (w := w) hb1 (by go_grown)).1
  have z4 := q4.size
  replace hX := hid_mk (hX.out.keep (after hb1 (by go_grown)).1)
  replace hA := hid_mk (hA.out.keep (after hb1 (by go_grown)).1)
  replace hC := hid_mk (hC.out.keep (after hb1 (by go_grown)).1)
  replace hok2 := hid_mk (hok2.out.to (after hb1 (by go_grown)).1)
  replace hL1 := hid_mk (hL1.out.to (after hb1 (by go_grown)).1)
  clear hb1
  cases zr
  case false =>
    obtain ⟨e1, e2, e3, e4, e5⟩ := hno.out rfl
    subst e1 e2 e3 e4 e5
    have hn0 : 0 = n1 := hL1.out.len
    subst hn0
    go_wp2_with fail
    refine (alive_any _ (ht.to (by go_grown))).mono ?_
    rintro e w5 ⟨rfl, hb1⟩
    have q5 := (after (w := w) hb1 (by go_grown)).1
    have z5 := q5.size
    replace hX := hid_mk (hX.out.keep (after hb1 (by go_grown)).1)
    replace hA := hid_mk (hA.out.keep (after hb1 (by go_grown)).1)
    replace hC := hid_mk (hC.out.keep (after hb1 (by go_grown)).1)
    replace hok2 := hid_mk (hok2.out.to (after hb1 (by go_grown)).1)
    replace hL1 := hid_mk (hL1.out.to (after hb1 (by go_grown)).1)
    clear hb1
    obtain ⟨xl, x0, x1, x2, x3, x4, x5, x6, x7, x8, x9, x10, x11, x12, x13⟩ := blk14c hX.out
    obtain ⟨pl, p0, p1, p2, p3, p4, p5, p6, p7, p8, p9, p10, p11, p12, p13⟩ := blk14c hA.out
    obtain ⟨sl, s0, s1, s2, s3, s4, s5, s6, s7, s8, s9, s10, s11, s12, s13⟩ := blk14c hC.out
    go_wp2_with fail
    clear xl x0 x1 x2 x3 x4 x5 x6 x7 x8 x9 x10 x11 x12 x13
    clear pl p0 p1 p2 p3 p4 p5 p6 p7 p8 p9 p10 p11 p12 p13
    clear sl s0 s1 s2 s3 s4 s5 s6 s7 s8 s9 s10 s11 s12 s13
    refine (NLike_same _ _ _ _ (B := w.heap.size) (B' := w.heap.size) (hN.to (by go_grown)) (hN.to (by go_grown))).mono ?_
    rintro e w6 ⟨rfl, hb1⟩
    have q6 := (after (w := w) hb1 (by go_grown)).1
    have z6 := q6.size
    replace hX := hid_mk (hX.out.keep (after hb1 (by go_grown)).1)
    replace hA := hid_mk (hA.out.keep (after hb1 (by go_grown)).1)
    replace hC := hid_mk (hC.out.keep (after hb1 (by go_grown)).1)
    replace hok2 := hid_mk (hok2.out.to (after hb1 (by go_grown)).1)
    replace hL1 := hid_mk (hL1.out.to (after hb1 (by go_grown)).1)
    clear hb1
    obtain ⟨xl, x0, x1, x2, x3, x4, x5, x6, x7, x8, x9, x10, x11, x12, x13⟩ := blk14c hX.out
    obtain ⟨pl, p0, p1, p2, p3, p4, p5, p6, p7, p8, p9, p10, p11, p12, p13⟩ := blk14c hA.out
    obtain ⟨sl, s0, s1, s2, s3, s4, s5, s6, s7, s8, s9, s10, s11, s12, s13⟩ := blk14c hC.out
    go_wp2_with fail
    clear xl x0 x1 x2 x3 x4 x5 x6 x7 x8 x9 x10 x11 x12 x13
    clear pl p0 p1 p2 p3 p4 p5 p6 p7 p8 p9 p10 p11 p12 p13
    clear sl s0 s1 s2 s3 s4 s5 s6 s7 s8 s9 s10 s11 s12 s13
    refine (NLike_same _ a2 _ _ (B := w.heap.size) (B' := w.heap.size) (hok2.out.to (by go_grown)) (hN.to (by go_grown))).mono ?_
    rintro e w7 ⟨rfl, hb1⟩
    have q7 := (after (w := w) hb1 (by go_grown)).1
    have z7 := q7.size
    replace hX := hid_mk (hX.out.keep (after hb1 (by go_grown)).1)
    replace hA := hid_mk (hA.out.keep (after hb1 (by go_grown)).1)
    replace hC := hid_mk (hC.out.keep (after hb1 (by go_grown)).1)
    replace hok2 := hid_mk (hok2.out.to (after hb1 (by go_grown)).1)
    replace hL1 := hid_mk (hL1.out.to (after hb1 (by go_grown)).1)
    clear hb1
    go_wp2
    refine ends_ret hQ (results_tmp rfl _ _ _) rfl ?_
    exact ⟨rfl, q7⟩
  clear hno
  obtain ⟨xl, x0, x1, x2, x3, x4, x5, x6, x7, x8, x9, x10, x11, x12, x13⟩ := blk14c hX.out
  go_wp2_with fail
  clear xl x0 x1 x2 x3 x4 x5 x6 x7 x8 x9 x10 x11 x12 x13
  refine (RStand_any N a d _ (B := w.heap.size) (by first | exact z4 | (simp only [World.size_alloc]; omega)) (hN.to (by go_grown)) hzr.out).mono ?_
  rw [hN2.out, hL.out, hW2.out]
  rintro e w5 ⟨⟨a3, A3, n3, c3, rfl, hok3, hL3, hc3⟩, hb1⟩
  have q5 := (after (w := w) hb1 (by go_grown)).1
  have z5 := q5.size
  replace hX := hid_mk (hX.out.keep (after hb1 (by go_grown)).1)
  replace hA := hid_mk (hA.out.keep (after hb1 (by go_grown)).1)
  replace hC := hid_mk (hC.out.keep (after hb1 (by go_grown)).1)
  replace hok2 := hid_mk (hok2.out.to (after hb1 (by go_grown)).1)
  replace hL1 := hid_mk (hL1.out.to (after hb1 (by go_grown)).1)
  clear hb1
  replace hok3 := hid_mk hok3
  replace hL3 := hid_mk hL3
  unfold nodeV
  obtain ⟨gD, hgD⟩ : ∃ g, w5.heap.size = g := ⟨_, rfl⟩
  replace hX := hid_mk (hX.out.alloc (.cells #[.int .i64 N2.id, .int .i64 N2.h.t, .int .i64 N2.h.v, .int .i64 N2.h.l.base, .int .i64 N2.h.l.bt, .slice a3.R.A a3.R.n a3.R.c, .string N2.h.s, .slice a3.V.A a3.V.n a3.V.c, .int .i64 N2.role, .int .i64 N2.lead, .int .i64 N2.timer, .int .i64 N2.commit, .slice a3.G.A a3.G.n a3.G.c, .slice a3.P.A a3.P.n a3.P.c] 30))
  replace hA := hid_mk (hA.out.alloc (.cells #[.int .i64 N2.id, .int .i64 N2.h.t, .int .i64 N2.h.v, .int .i64 N2.h.l.base, .int .i64 N2.h.l.bt, .slice a3.R.A a3.R.n a3.R.c, .string N2.h.s, .slice a3.V.A a3.V.n a3.V.c, .int .i64 N2.role, .int .i64 N2.lead, .int .i64 N2.timer, .int .i64 N2.commit, .slice a3.G.A a3.G.n a3.G.c, .slice a3.P.A a3.P.n a3.P.c] 30))
  replace hC := hid_mk (hC.out.alloc (.cells #[.int .i64 N2.id, .int .i64 N2.h.t, .int .i64 N2.h.v, .int .i64 N2.h.l.base, .int .i64 N2.h.l.bt, .slice a3.R.A a3.R.n a3.R.c, .string N2.h.s, .slice a3.V.A a3.V.n a3.V.c, .int .i64 N2.role, .int .i64 N2.lead, .int .i64 N2.timer, .int .i64 N2.commit, .slice a3.G.A a3.G.n a3.G.c, .slice a3.P.A a3.P.n a3.P.c] 30))
  replace hok2 := hid_mk (hok2.out.to ((Below.refl _ _).alloc (Nat.le_refl _) (.cells #[.int .i64 N2.id, .int .i64 N2.h.t, .int .i64 N2.h.v, .int .i64 N2.h.l.base, .int .i64 N2.h.l.bt, .slice a3.R.A a3.R.n a3.R.c, .string N2.h.s, .slice a3.V.A a3.V.n a3.V.c, .int .i64 N2.role, .int .i64 N2.lead, .int .i64 N2.timer, .int .i64 N2.commit, .slice a3.G.A a3.G.n a3.G.c, .slice a3.P.A a3.P.n a3.P.c] 30)))
  replace hL1 := hid_mk (hL1.out.to ((Below.refl _ _).alloc (Nat.le_refl _) (.cells #[.int .i64 N2.id, .int .i64 N2.h.t, .int .i64 N2.h.v, .int .i64 N2.h.l.base, .int .i64 N2.h.l.bt, .slice a3.R.A a3.R.n a3.R.c, .string N2.h.s, .slice a3.V.A a3.V.n a3.V.c, .int .i64 N2.role, .int .i64 N2.lead, .int .i64 N2.timer, .int .i64 N2.commit, .slice a3.G.A a3.G.n a3.G.c, .slice a3.P.A a3.P.n a3.P.c] 30)))
  replace hok3 := hid_mk (hok3.out.to ((Below.refl _ _).alloc (Nat.le_refl _) (.cells #[.int .i64 N2.id, .int .i64 N2.h.t, .int .i64 N2.h.v, .int .i64 N2.h.l.base, .int .i64 N2.h.l.bt, .slice a3.R.A a3.R.n a3.R.c, .string N2.h.s, .slice a3.V.A a3.V.n a3.V.c, .int .i64 N2.role, .int .i64 N2.lead, .int .i64 N2.timer, .int .i64 N2.commit, .slice a3.G.A a3.G.n a3.G.c, .slice a3.P.A a3.P.n a3.P.c] 30)))
  replace hL3 := hid_mk (hL3.out.to ((Below.refl _ _).alloc (Nat.le_refl _) (.cells #[.int .i64 N2.id, .int .i64 N2.h.t, .int .i64 N2.h.v, .int .i64 N2.h.l.base, .int .i64 N2.h.l.bt, .slice a3.R.A a3.R.n a3.R.c, .string N2.h.s, .slice a3.V.A a3.V.n a3.V.c, .int .i64 N2.role, .int .i64 N2.lead, .int .i64 N2.timer, .int .i64 N2.commit, .slice a3.G.A a3.G.n a3.G.c, .slice a3.P.A a3.P.n a3.P.c] 30)))
  have hD : Hid (Blk (w5.alloc (.cells #[.int .i64 N2.id, .int .i64 N2.h.t, .int .i64 N2.h.v, .int .i64 N2.h.l.base, .int .i64 N2.h.l.bt, .slice a3.R.A a3.R.n a3.R.c, .string N2.h.s, .slice a3.V.A a3.V.n a3.V.c, .int .i64 N2.role, .int .i64 N2.lead, .int .i64 N2.timer, .int .i64 N2.commit, .slice a3.G.A a3.G.n a3.G.c, .slice a3.P.A a3.P.n a3.P.c] 30)) gD 30 #[.int .i64 N2.id, .int .i64 N2.h.t, .int .i64 N2.h.v, .int .i64 N2.h.l.base, .int .i64 N2.h.l.bt, .slice a3.R.A a3.R.n a3.R.c, .string N2.h.s, .slice a3.V.A a3.V.n a3.V.c, .int .i64 N2.role, .int .i64 N2.lead, .int .i64 N2.timer, .int .i64 N2.commit, .slice a3.G.A a3.G.n a3.G.c, .slice a3.P.A a3.P.n a3.P.c]) := by rw [← hgD]; exact Blk.new _ _ _
  replace hgD := hid_mk hgD
  have q6 : Below w.heap.size w (w5.alloc (.cells #[.int .i64 N2.id, .int .i64 N2.h.t, .int .i64 N2.h.v, .int .i64 N2.h.l.base, .int .i64 N2.h.l.bt, .slice a3.R.A a3.R.n a3.R.c, .string N2.h.s, .slice a3.V.A a3.V.n a3.V.c, .int .i64 N2.role, .int .i64 N2.lead, .int .i64 N2.timer, .int .i64 N2.commit, .slice a3.G.A a3.G.n a3.G.c, .slice a3.P.A a3.P.n a3.P.c] 30)) := by go_grown
  go_upto_region 8 with fail
  try rw [hgD.out]
  have hn43 : n1 ≤ 8796093022208 := by
    have h1 := hL1.out.len
    rw [List.length_map, ← hL.out] at h1
    have h2 := stand_lenK hzr.out
    omega
  refine wp_region_T' (fun w' => Blk w' w.heap.size 30 #[.int .i64 N.id, .int .i64 N.h.t, .int .i64 N.h.v, .int .i64 N.h.l.base, .int .i64 N.h.l.bt, .slice a.R.A a.R.n a.R.c, .string N.h.s, .slice a.V.A a.V.n a.V.c, .int .i64 N.role, .int .i64 N.lead, .int .i64 N.timer, .int .i64 N.commit, .slice a.G.A a.G.n a.G.c, .slice a.P.A a.P.n a.P.c] ∧ Blk w' gA 30 #[.int .i64 N1.id, .int .i64 N1.h.t, .int .i64 N1.h.v, .int .i64 N1.h.l.base, .int .i64 N1.h.l.bt, .slice a1.R.A a1.R.n a1.R.c, .string N1.h.s, .slice a1.V.A a1.V.n a1.V.c, .int .i64 N1.role, .int .i64 N1.lead, .int .i64 N1.timer, .int .i64 N1.commit, .slice a1.G.A a1.G.n a1.G.c, .slice a1.P.A a1.P.n a1.P.c] ∧ Blk w' gC 30 #[.int .i64 N2.id, .int .i64 N2.h.t, .int .i64 N2.h.v, .int .i64 N2.h.l.base, .int .i64 N2.h.l.bt, .slice a2.R.A a2.R.n a2.R.c, .string N2.h.s, .slice a2.V.A a2.V.n a2.V.c, .int .i64 N2.role, .int .i64 N2.lead, .int .i64 N2.timer, .int .i64 N2.commit, .slice a2.G.A a2.G.n a2.G.c, .slice a2.P.A a2.P.n a2.P.c] ∧ Blk w' gD 30 #[.int .i64 N2.id, .int .i64 N2.h.t, .int .i64 N2.h.v, .int .i64 N2.h.l.base, .int .i64 N2.h.l.bt, .slice a3.R.A a3.R.n a3.R.c, .string N2.h.s, .slice a3.V.A a3.V.n a3.V.c, .int .i64 N2.role, .int .i64 N2.lead, .int .i64 N2.timer, .int .i64 N2.commit, .slice a3.G.A a3.G.n a3.G.c, .slice a3.P.A a3.P.n a3.P.c]) (fun j => decide (j < 24)) 24 (by kernel_rfl) (by kernel_rfl) (by exact ⟨hX.out, hA.out, hC.out, hD.out⟩) (fun hS0 => ?_)
  replace hX := hid_mk hX.out.drew
  replace hA := hid_mk hA.out.drew
  replace hC := hid_mk hC.out.drew
  replace hD := hid_mk hD.out.drew
  replace hok2 := hid_mk (hok2.out.to (show Below (w5.alloc (.cells #[.int .i64 N2.id, .int .i64 N2.h.t, .int .i64 N2.h.v, .int .i64 N2.h.l.base, .int .i64 N2.h.l.bt, .slice a3.R.A a3.R.n a3.R.c, .string N2.h.s, .slice a3.V.A a3.V.n a3.V.c, .int .i64 N2.role, .int .i64 N2.lead, .int .i64 N2.timer, .int .i64 N2.commit, .slice a3.G.A a3.G.n a3.G.c, .slice a3.P.A a3.P.n a3.P.c] 30)).heap.size (w5.alloc (.cells #[.int .i64 N2.id, .int .i64 N2.h.t, .int .i64 N2.h.v, .int .i64 N2.h.l.base, .int .i64 N2.h.l.bt, .slice a3.R.A a3.R.n a3.R.c, .string N2.h.s, .slice a3.V.A a3.V.n a3.V.c, .int .i64 N2.role, .int .i64 N2.lead, .int .i64 N2.timer, .int .i64 N2.commit, .slice a3.G.A a3.G.n a3.G.c, .slice a3.P.A a3.P.n a3.P.c] 30)) (w5.alloc (.cells #[.int .i64 N2.id, .int .i64 N2.h.t, .int .i64 N2.h.v, .int .i64 N2.h.l.base, .int .i64 N2.h.l.bt, .slice a3.R.A a3.R.n a3.R.c, .string N2.h.s, .slice a3.V.A a3.V.n a3.V.c, .int .i64 N2.role, .int .i64 N2.lead, .int .i64 N2.timer, .int .i64 N2.commit, .slice a3.G.A a3.G.n a3.G.c, .slice a3.P.A a3.P.n a3.P.c] 30)).drew by go_grown))
  replace hL1 := hid_mk (hL1.out.to (show Below (w5.alloc (.cells #[.int .i64 N2.id, .int .i64 N2.h.t, .int .i64 N2.h.v, .int .i64 N2.h.l.base, .int .i64 N2.h.l.bt, .slice a3.R.A a3.R.n a3.R.c, .string N2.h.s, .slice a3.V.A a3.V.n a3.V.c, .int .i64 N2.role, .int .i64 N2.lead, .int .i64 N2.timer, .int .i64 N2.commit, .slice a3.G.A a3.G.n a3.G.c, .slice a3.P.A a3.P.n a3.P.c] 30)).heap.size (w5.alloc (.cells #[.int .i64 N2.id, .int .i64 N2.h.t, .int .i64 N2.h.v, .int .i64 N2.h.l.base, .int .i64 N2.h.l.bt, .slice a3.R.A a3.R.n a3.R.c, .string N2.h.s, .slice a3.V.A a3.V.n a3.V.c, .int .i64 N2.role, .int .i64 N2.lead, .int .i64 N2.timer, .int .i64 N2.commit, .slice a3.G.A a3.G.n a3.G.c, .slice a3.P.A a3.P.n a3.P.c] 30)) (w5.alloc (.cells #[.int .i64 N2.id, .int .i64 N2.h.t, .int .i64 N2.h.v, .int .i64 N2.h.l.base, .int .i64 N2.h.l.bt, .slice a3.R.A a3.R.n a3.R.c, .string N2.h.s, .slice a3.V.A a3.V.n a3.V.c, .int .i64 N2.role, .int .i64 N2.lead, .int .i64 N2.timer, .int .i64 N2.commit, .slice a3.G.A a3.G.n a3.G.c, .slice a3.P.A a3.P.n a3.P.c] 30)).drew by go_grown))
  replace hok3 := hid_mk (hok3.out.to (show Below (w5.alloc (.cells #[.int .i64 N2.id, .int .i64 N2.h.t, .int .i64 N2.h.v, .int .i64 N2.h.l.base, .int .i64 N2.h.l.bt, .slice a3.R.A a3.R.n a3.R.c, .string N2.h.s, .slice a3.V.A a3.V.n a3.V.c, .int .i64 N2.role, .int .i64 N2.lead, .int .i64 N2.timer, .int .i64 N2.commit, .slice a3.G.A a3.G.n a3.G.c, .slice a3.P.A a3.P.n a3.P.c] 30)).heap.size (w5.alloc (.cells #[.int .i64 N2.id, .int .i64 N2.h.t, .int .i64 N2.h.v, .int .i64 N2.h.l.base, .int .i64 N2.h.l.bt, .slice a3.R.A a3.R.n a3.R.c, .string N2.h.s, .slice a3.V.A a3.V.n a3.V.c, .int .i64 N2.role, .int .i64 N2.lead, .int .i64 N2.timer, .int .i64 N2.commit, .slice a3.G.A a3.G.n a3.G.c, .slice a3.P.A a3.P.n a3.P.c] 30)) (w5.alloc (.cells #[.int .i64 N2.id, .int .i64 N2.h.t, .int .i64 N2.h.v, .int .i64 N2.h.l.base, .int .i64 N2.h.l.bt, .slice a3.R.A a3.R.n a3.R.c, .string N2.h.s, .slice a3.V.A a3.V.n a3.V.c, .int .i64 N2.role, .int .i64 N2.lead, .int .i64 N2.timer, .int .i64 N2.commit, .slice a3.G.A a3.G.n a3.G.c, .slice a3.P.A a3.P.n a3.P.c] 30)).drew by go_grown))
  replace hL3 := hid_mk (hL3.out.to (show Below (w5.alloc (.cells #[.int .i64 N2.id, .int .i64 N2.h.t, .int .i64 N2.h.v, .int .i64 N2.h.l.base, .int .i64 N2.h.l.bt, .slice a3.R.A a3.R.n a3.R.c, .string N2.h.s, .slice a3.V.A a3.V.n a3.V.c, .int .i64 N2.role, .int .i64 N2.lead, .int .i64 N2.timer, .int .i64 N2.commit, .slice a3.G.A a3.G.n a3.G.c, .slice a3.P.A a3.P.n a3.P.c] 30)).heap.size (w5.alloc (.cells #[.int .i64 N2.id, .int .i64 N2.h.t, .int .i64 N2.h.v, .int .i64 N2.h.l.base, .int .i64 N2.h.l.bt, .slice a3.R.A a3.R.n a3.R.c, .string N2.h.s, .slice a3.V.A a3.V.n a3.V.c, .int .i64 N2.role, .int .i64 N2.lead, .int .i64 N2.timer, .int .i64 N2.commit, .slice a3.G.A a3.G.n a3.G.c, .slice a3.P.A a3.P.n a3.P.c] 30)) (w5.alloc (.cells #[.int .i64 N2.id, .int .i64 N2.h.t, .int .i64 N2.h.v, .int .i64 N2.h.l.base, .int .i64 N2.h.l.bt, .slice a3.R.A a3.R.n a3.R.c, .string N2.h.s, .slice a3.V.A a3.V.n a3.V.c, .int .i64 N2.role, .int .i64 N2.lead, .int .i64 N2.timer, .int .i64 N2.commit, .slice a3.G.A a3.G.n a3.G.c, .slice a3.P.A a3.P.n a3.P.c] 30)).drew by go_grown))
  have q7 : Below w.heap.size w (w5.alloc (.cells #[.int .i64 N2.id, .int .i64 N2.h.t, .int .i64 N2.h.v, .int .i64 N2.h.l.base, .int .i64 N2.h.l.bt, .slice a3.R.A a3.R.n a3.R.c, .string N2.h.s, .slice a3.V.A a3.V.n a3.V.c, .int .i64 N2.role, .int .i64 N2.lead, .int .i64 N2.timer, .int .i64 N2.commit, .slice a3.G.A a3.G.n a3.G.c, .slice a3.P.A a3.P.n a3.P.c] 30)).drew := by go_grown
  obtain ⟨wd, hwd⟩ : ∃ x, (w5.alloc (.cells #[.int .i64 N2.id, .int .i64 N2.h.t, .int .i64 N2.h.v, .int .i64 N2.h.l.base, .int .i64 N2.h.l.bt, .slice a3.R.A a3.R.n a3.R.c, .string N2.h.s, .slice a3.V.A a3.V.n a3.V.c, .int .i64 N2.role, .int .i64 N2.lead, .int .i64 N2.timer, .int .i64 N2.commit, .slice a3.G.A a3.G.n a3.G.c, .slice a3.P.A a3.P.n a3.P.c] 30)).drew = x := ⟨_, rfl⟩
  rw [hwd] at hS0 hX hA hC hD hok2 hL1 hok3 hL3 q7 ⊢
  clear hwd q6
  have z7 := q7.size
  refine wpAnyT_one (i := 0) (by kernel_rfl) rfl (fun K hK => ?_)
  go_simp
  refine (alive_any _ (ht.to (by go_grown))).mono ?_
  rintro e w8 ⟨rfl, hb1⟩
  have q8 := (after (w := w) hb1 (by go_grown)).1
  have z8 := q8.size
  replace hX := hid_mk (hX.out.keep hb1)
  replace hA := hid_mk (hA.out.keep hb1)
  replace hC := hid_mk (hC.out.keep hb1)
  replace hD := hid_mk (hD.out.keep hb1)
  replace hok2 := hid_mk (hok2.out.to hb1)
  replace hL1 := hid_mk (hL1.out.to hb1)
  replace hok3 := hid_mk (hok3.out.to hb1)
  replace hL3 := hid_mk (hL3.out.to hb1)
  clear hb1
  refine hK.out _ _ (fun _ => ⟨hX.out, hA.out, hC.out, hD.out⟩) ?_
  clear hK K
  try simp only [Act.put]
  refine wpAnyT_take (i := 1) rfl (by kernel_rfl) (by kernel_rfl) (by kernel_rfl) rfl (by kernel_rfl) (fun _ _ _ h => h) (by kernel_rfl) (fun w' hS => (by obtain ⟨hS1, hS2, hS3, hS4⟩ := hS; obtain ⟨xl, x0, x1, x2, x3, x4, x5, x6, x7, x8, x9, x10, x11, x12, x13⟩ := blk14c hS1; obtain ⟨pl, p0, p1, p2, p3, p4, p5, p6, p7, p8, p9, p10, p11, p12, p13⟩ := blk14c hS2; obtain ⟨sl, s0, s1, s2, s3, s4, s5, s6, s7, s8, s9, s10, s11, s12, s13⟩ := blk14c hS3; obtain ⟨ul, u0, u1, u2, u3, u4, u5, u6, u7, u8, u9, u10, u11, u12, u13⟩ := blk14c hS4; go_simp; try with_reducible rfl)) ⟨hX.out, hA.out, hC.out, hD.out⟩ ?_
  simp only [Act.put]
  refine wpAnyT_take (i := 2) rfl (by kernel_rfl) (by kernel_rfl) (by kernel_rfl) rfl (by kernel_rfl) (fun _ _ _ h => h) (by kernel_rfl) (fun w' hS => (by obtain ⟨hS1, hS2, hS3, hS4⟩ := hS; obtain ⟨xl, x0, x1, x2, x3, x4, x5, x6, x7, x8, x9, x10, x11, x12, x13⟩ := blk14c hS1; obtain ⟨pl, p0, p1, p2, p3, p4, p5, p6, p7, p8, p9, p10, p11, p12, p13⟩ := blk14c hS2; obtain ⟨sl, s0, s1, s2, s3, s4, s5, s6, s7, s8, s9, s10, s11, s12, s13⟩ := blk14c hS3; obtain ⟨ul, u0, u1, u2, u3, u4, u5, u6, u7, u8, u9, u10, u11, u12, u13⟩ := blk14c hS4; go_simp; try with_reducible rfl)) ⟨hX.out, hA.out, hC.out, hD.out⟩ ?_
  simp only [Act.put]
  refine wpAnyT_take (i := 3) rfl (by kernel_rfl) (by kernel_rfl) (by kernel_rfl) rfl (by kernel_rfl) (fun _ _ _ h => h) (by kernel_rfl) (fun w' hS => (by obtain ⟨hS1, hS2, hS3, hS4⟩ := hS; obtain ⟨xl, x0, x1, x2, x3, x4, x5, x6, x7, x8, x9, x10, x11, x12, x13⟩ := blk14c hS1; obtain ⟨pl, p0, p1, p2, p3, p4, p5, p6, p7, p8, p9, p10, p11, p12, p13⟩ := blk14c hS2; obtain ⟨sl, s0, s1, s2, s3, s4, s5, s6, s7, s8, s9, s10, s11, s12, s13⟩ := blk14c hS3; obtain ⟨ul, u0, u1, u2, u3, u4, u5, u6, u7, u8, u9, u10, u11, u12, u13⟩ := blk14c hS4; go_simp; try with_reducible rfl)) ⟨hX.out, hA.out, hC.out, hD.out⟩ ?_
  simp only [Act.put]
  refine wpAnyT_take (i := 4) rfl (by kernel_rfl) (by kernel_rfl) (by kernel_rfl) rfl (by kernel_rfl) (fun _ _ _ h => h) (by kernel_rfl) (fun w' hS => (by obtain ⟨hS1, hS2, hS3, hS4⟩ := hS; obtain ⟨xl, x0, x1, x2, x3, x4, x5, x6, x7, x8, x9, x10, x11, x12, x13⟩ := blk14c hS1; obtain ⟨pl, p0, p1, p2, p3, p4, p5, p6, p7, p8, p9, p10, p11, p12, p13⟩ := blk14c hS2; obtain ⟨sl, s0, s1, s2, s3, s4, s5, s6, s7, s8, s9, s10, s11, s12, s13⟩ := blk14c hS3; obtain ⟨ul, u0, u1, u2, u3, u4, u5, u6, u7, u8, u9, u10, u11, u12, u13⟩ := blk14c hS4; go_simp; try with_reducible rfl)) ⟨hX.out, hA.out, hC.out, hD.out⟩ ?_
  simp only [Act.put]
  refine wpAnyT_one (i := 5) (by kernel_rfl) rfl (fun K hK => ?_)
  go_simp
  refine (RLater_any N a term _ hzr.out).mono ?_
  rw [hN1.out, ha1.out]
  rintro e w9 ⟨rfl, hb1⟩
  have q9 := (after (w := w) hb1 (by go_grown)).1
  have z9 := q9.size
  replace hX := hid_mk (hX.out.keep hb1)
  replace hA := hid_mk (hA.out.keep hb1)
  replace hC := hid_mk (hC.out.keep hb1)
  replace hD := hid_mk (hD.out.keep hb1)
  replace hok2 := hid_mk (hok2.out.to hb1)
  replace hL1 := hid_mk (hL1.out.to hb1)
  replace hok3 := hid_mk (hok3.out.to hb1)
  replace hL3 := hid_mk (hL3.out.to hb1)
  clear hb1
  unfold nodeV
  refine hK.out _ _ (fun _ => ⟨hX.out, hA.out, hC.out, hD.out⟩) ?_
  clear hK K
  try simp only [Act.put]
  refine wpAnyT_one (i := 6) (by kernel_rfl) rfl (fun K hK => ?_)
  go_simp
  refine (NLike_same N1 a1 a1 _ (B := w.heap.size) (B' := w.heap.size) (hok1.out.to (by go_grown)) (hok1.out.to (by go_grown))).mono ?_
  rintro e w10 ⟨rfl, hb1⟩
  have q10 := (after (w := w) hb1 (by go_grown)).1
  have z10 := q10.size
  replace hX := hid_mk (hX.out.keep hb1)
  replace hA := hid_mk (hA.out.keep hb1)
  replace hC := hid_mk (hC.out.keep hb1)
  replace hD := hid_mk (hD.out.keep hb1)
  replace hok2 := hid_mk (hok2.out.to hb1)
  replace hL1 := hid_mk (hL1.out.to hb1)
  replace hok3 := hid_mk (hok3.out.to hb1)
  replace hL3 := hid_mk (hL3.out.to hb1)
  clear hb1
  refine hK.out _ _ (fun _ => ⟨hX.out, hA.out, hC.out, hD.out⟩) ?_
  clear hK K
  try simp only [Act.put]
  refine wpAnyT_take (i := 7) rfl (by kernel_rfl) (by kernel_rfl) (by kernel_rfl) rfl (by kernel_rfl) (fun _ _ _ h => h) (by kernel_rfl) (fun w' hS => (by obtain ⟨hS1, hS2, hS3, hS4⟩ := hS; obtain ⟨xl, x0, x1, x2, x3, x4, x5, x6, x7, x8, x9, x10, x11, x12, x13⟩ := blk14c hS1; obtain ⟨pl, p0, p1, p2, p3, p4, p5, p6, p7, p8, p9, p10, p11, p12, p13⟩ := blk14c hS2; obtain ⟨sl, s0, s1, s2, s3, s4, s5, s6, s7, s8, s9, s10, s11, s12, s13⟩ := blk14c hS3; obtain ⟨ul, u0, u1, u2, u3, u4, u5, u6, u7, u8, u9, u10, u11, u12, u13⟩ := blk14c hS4; go_simp; try with_reducible rfl)) ⟨hX.out, hA.out, hC.out, hD.out⟩ ?_
  simp only [Act.put]
  refine wpAnyT_take (i := 8) rfl (by kernel_rfl) (by kernel_rfl) (by kernel_rfl) rfl (by kernel_rfl) (fun _ _ _ h => h) (by kernel_rfl) (fun w' hS => (by obtain ⟨hS1, hS2, hS3, hS4⟩ := hS; obtain ⟨xl, x0, x1, x2, x3, x4, x5, x6, x7, x8, x9, x10, x11, x12, x13⟩ := blk14c hS1; obtain ⟨pl, p0, p1, p2, p3, p4, p5, p6, p7, p8, p9, p10, p11, p12, p13⟩ := blk14c hS2; obtain ⟨sl, s0, s1, s2, s3, s4, s5, s6, s7, s8, s9, s10, s11, s12, s13⟩ := blk14c hS3; obtain ⟨ul, u0, u1, u2, u3, u4, u5, u6, u7, u8, u9, u10, u11, u12, u13⟩ := blk14c hS4; go_simp; try with_reducible rfl)) ⟨hX.out, hA.out, hC.out, hD.out⟩ ?_
  simp only [Act.put]
  refine wpAnyT_take (i := 9) rfl (by kernel_rfl) (by kernel_rfl) (by kernel_rfl) rfl (by kernel_rfl) (fun _ _ _ h => h) (by kernel_rfl) (fun w' hS => (by obtain ⟨hS1, hS2, hS3, hS4⟩ := hS; obtain ⟨xl, x0, x1, x2, x3, x4, x5, x6, x7, x8, x9, x10, x11, x12, x13⟩ := blk14c hS1; obtain ⟨pl, p0, p1, p2, p3, p4, p5, p6, p7, p8, p9, p10, p11, p12, p13⟩ := blk14c hS2; obtain ⟨sl, s0, s1, s2, s3, s4, s5, s6, s7, s8, s9, s10, s11, s12, s13⟩ := blk14c hS3; obtain ⟨ul, u0, u1, u2, u3, u4, u5, u6, u7, u8, u9, u10, u11, u12, u13⟩ := blk14c hS4; go_simp; try with_reducible rfl)) ⟨hX.out, hA.out, hC.out, hD.out⟩ ?_
  simp only [Act.put]
  refine wpAnyT_take (i := 10) rfl (by kernel_rfl) (by kernel_rfl) (by kernel_rfl) rfl (by kernel_rfl) (fun _ _ _ h => h) (by kernel_rfl) (fun w' hS => (by obtain ⟨hS1, hS2, hS3, hS4⟩ := hS; obtain ⟨xl, x0, x1, x2, x3, x4, x5, x6, x7, x8, x9, x10, x11, x12, x13⟩ := blk14c hS1; obtain ⟨pl, p0, p1, p2, p3, p4, p5, p6, p7, p8, p9, p10, p11, p12, p13⟩ := blk14c hS2; obtain ⟨sl, s0, s1, s2, s3, s4, s5, s6, s7, s8, s9, s10, s11, s12, s13⟩ := blk14c hS3; obtain ⟨ul, u0, u1, u2, u3, u4, u5, u6, u7, u8, u9, u10, u11, u12, u13⟩ := blk14c hS4; go_simp; try with_reducible rfl)) ⟨hX.out, hA.out, hC.out, hD.out⟩ ?_
  simp only [Act.put]
  refine wpAnyT_one (i := 11) (by kernel_rfl) rfl (fun K hK => ?_)
  go_simp
  refine (NLike_same N2 a2 a3 _ (B := w.heap.size) (B' := w.heap.size) (hok2.out.to (by go_grown)) (hok3.out.to (by go_grown))).mono ?_
  rintro e w11 ⟨rfl, hb1⟩
  have q11 := (after (w := w) hb1 (by go_grown)).1
  have z11 := q11.size
  replace hX := hid_mk (hX.out.keep hb1)
  replace hA := hid_mk (hA.out.keep hb1)
  replace hC := hid_mk (hC.out.keep hb1)
  replace hD := hid_mk (hD.out.keep hb1)
  replace hok2 := hid_mk (hok2.out.to hb1)
  replace hL1 := hid_mk (hL1.out.to hb1)
  replace hok3 := hid_mk (hok3.out.to hb1)
  replace hL3 := hid_mk (hL3.out.to hb1)
  clear hb1
  refine hK.out _ _ (fun _ => ⟨hX.out, hA.out, hC.out, hD.out⟩) ?_
  clear hK K
  try simp only [Act.put]
  refine wpAnyT_take (i := 12) rfl (by kernel_rfl) (by kernel_rfl) (by kernel_rfl) rfl (by kernel_rfl) (fun _ _ _ h => h) (by kernel_rfl) (fun w' hS => (by obtain ⟨hS1, hS2, hS3, hS4⟩ := hS; obtain ⟨xl, x0, x1, x2, x3, x4, x5, x6, x7, x8, x9, x10, x11, x12, x13⟩ := blk14c hS1; obtain ⟨pl, p0, p1, p2, p3, p4, p5, p6, p7, p8, p9, p10, p11, p12, p13⟩ := blk14c hS2; obtain ⟨sl, s0, s1, s2, s3, s4, s5, s6, s7, s8, s9, s10, s11, s12, s13⟩ := blk14c hS3; obtain ⟨ul, u0, u1, u2, u3, u4, u5, u6, u7, u8, u9, u10, u11, u12, u13⟩ := blk14c hS4; go_simp; try with_reducible rfl)) ⟨hX.out, hA.out, hC.out, hD.out⟩ ?_
  simp only [Act.put]
  refine wpAnyT_take (i := 13) rfl (by kernel_rfl) (by kernel_rfl) (by kernel_rfl) rfl (by kernel_rfl) (fun _ _ _ h => h) (by kernel_rfl) (fun w' hS => (by obtain ⟨hS1, hS2, hS3, hS4⟩ := hS; obtain ⟨xl, x0, x1, x2, x3, x4, x5, x6, x7, x8, x9, x10, x11, x12, x13⟩ := blk14c hS1; obtain ⟨pl, p0, p1, p2, p3, p4, p5, p6, p7, p8, p9, p10, p11, p12, p13⟩ := blk14c hS2; obtain ⟨sl, s0, s1, s2, s3, s4, s5, s6, s7, s8, s9, s10, s11, s12, s13⟩ := blk14c hS3; obtain ⟨ul, u0, u1, u2, u3, u4, u5, u6, u7, u8, u9, u10, u11, u12, u13⟩ := blk14c hS4; go_simp; try with_reducible rfl)) ⟨hX.out, hA.out, hC.out, hD.out⟩ ?_
  simp only [Act.put]
  refine wpAnyT_take (i := 14) rfl (by kernel_rfl) (by kernel_rfl) (by kernel_rfl) rfl (by kernel_rfl) (fun _ _ _ h => h) (by kernel_rfl) (fun w' hS => (by obtain ⟨hS1, hS2, hS3, hS4⟩ := hS; obtain ⟨xl, x0, x1, x2, x3, x4, x5, x6, x7, x8, x9, x10, x11, x12, x13⟩ := blk14c hS1; obtain ⟨pl, p0, p1, p2, p3, p4, p5, p6, p7, p8, p9, p10, p11, p12, p13⟩ := blk14c hS2; obtain ⟨sl, s0, s1, s2, s3, s4, s5, s6, s7, s8, s9, s10, s11, s12, s13⟩ := blk14c hS3; obtain ⟨ul, u0, u1, u2, u3, u4, u5, u6, u7, u8, u9, u10, u11, u12, u13⟩ := blk14c hS4; go_simp; try with_reducible rfl)) ⟨hX.out, hA.out, hC.out, hD.out⟩ ?_
  simp only [Act.put]
  refine wpAnyT_take (i := 15) rfl (by kernel_rfl) (by kernel_rfl) (by kernel_rfl) rfl (by kernel_rfl) (fun _ _ _ h => h) (by kernel_rfl) (fun w' hS => (by obtain ⟨hS1, hS2, hS3, hS4⟩ := hS; obtain ⟨xl, x0, x1, x2, x3, x4, x5, x6, x7, x8, x9, x10, x11, x12, x13⟩ := blk14c hS1; obtain ⟨pl, p0, p1, p2, p3, p4, p5, p6, p7, p8, p9, p10, p11, p12, p13⟩ := blk14c hS2; obtain ⟨sl, s0, s1, s2, s3, s4, s5, s6, s7, s8, s9, s10, s11, s12, s13⟩ := blk14c hS3; obtain ⟨ul, u0, u1, u2, u3, u4, u5, u6, u7, u8, u9, u10, u11, u12, u13⟩ := blk14c hS4; go_simp; try with_reducible rfl)) ⟨hX.out, hA.out, hC.out, hD.out⟩ ?_
  simp only [Act.put]
  refine wpAnyT_one (i := 16) (by kernel_rfl) rfl (fun K hK => ?_)
  go_simp
  refine (LikeMsg_same A1 n1 c1 A3 n3 c3 (L.map fun M => (M, nilMA)) (L.map fun M => (M, nilMA)) _ (B := 0) (B' := 0) hn43 (hL1.out.to (by go_grown)) (hL3.out.to (by go_grown)) rfl).mono ?_
  rintro e w12 ⟨rfl, hb1⟩
  have q12 := (after (w := w) hb1 (by go_grown)).1
  have z12 := q12.size
  replace hX := hid_mk (hX.out.keep hb1)
  replace hA := hid_mk (hA.out.keep hb1)
  replace hC := hid_mk (hC.out.keep hb1)
  replace hD := hid_mk (hD.out.keep hb1)
  replace hok2 := hid_mk (hok2.out.to hb1)
  replace hL1 := hid_mk (hL1.out.to hb1)
  replace hok3 := hid_mk (hok3.out.to hb1)
  replace hL3 := hid_mk (hL3.out.to hb1)
  clear hb1
  refine hK.out _ _ (fun _ => ⟨hX.out, hA.out, hC.out, hD.out⟩) ?_
  clear hK K
  try simp only [Act.put]
  refine wpAnyT_take (i := 17) rfl (by kernel_rfl) (by kernel_rfl) (by kernel_rfl) rfl (by kernel_rfl) (fun _ _ _ h => h) (by kernel_rfl) (fun w' hS => (by obtain ⟨hS1, hS2, hS3, hS4⟩ := hS; obtain ⟨xl, x0, x1, x2, x3, x4, x5, x6, x7, x8, x9, x10, x11, x12, x13⟩ := blk14c hS1; obtain ⟨pl, p0, p1, p2, p3, p4, p5, p6, p7, p8, p9, p10, p11, p12, p13⟩ := blk14c hS2; obtain ⟨sl, s0, s1, s2, s3, s4, s5, s6, s7, s8, s9, s10, s11, s12, s13⟩ := blk14c hS3; obtain ⟨ul, u0, u1, u2, u3, u4, u5, u6, u7, u8, u9, u10, u11, u12, u13⟩ := blk14c hS4; go_simp; try with_reducible rfl)) ⟨hX.out, hA.out, hC.out, hD.out⟩ ?_
  simp only [Act.put]
  refine wpAnyT_take (i := 18) rfl (by kernel_rfl) (by kernel_rfl) (by kernel_rfl) rfl (by kernel_rfl) (fun _ _ _ h => h) (by kernel_rfl) (fun w' hS => (by obtain ⟨hS1, hS2, hS3, hS4⟩ := hS; obtain ⟨xl, x0, x1, x2, x3, x4, x5, x6, x7, x8, x9, x10, x11, x12, x13⟩ := blk14c hS1; obtain ⟨pl, p0, p1, p2, p3, p4, p5, p6, p7, p8, p9, p10, p11, p12, p13⟩ := blk14c hS2; obtain ⟨sl, s0, s1, s2, s3, s4, s5, s6, s7, s8, s9, s10, s11, s12, s13⟩ := blk14c hS3; obtain ⟨ul, u0, u1, u2, u3, u4, u5, u6, u7, u8, u9, u10, u11, u12, u13⟩ := blk14c hS4; go_simp; try with_reducible rfl)) ⟨hX.out, hA.out, hC.out, hD.out⟩ ?_
  simp only [Act.put]
  refine wpAnyT_take (i := 19) rfl (by kernel_rfl) (by kernel_rfl) (by kernel_rfl) rfl (by kernel_rfl) (fun _ _ _ h => h) (by kernel_rfl) (fun w' hS => (by obtain ⟨hS1, hS2, hS3, hS4⟩ := hS; obtain ⟨xl, x0, x1, x2, x3, x4, x5, x6, x7, x8, x9, x10, x11, x12, x13⟩ := blk14c hS1; obtain ⟨pl, p0, p1, p2, p3, p4, p5, p6, p7, p8, p9, p10, p11, p12, p13⟩ := blk14c hS2; obtain ⟨sl, s0, s1, s2, s3, s4, s5, s6, s7, s8, s9, s10, s11, s12, s13⟩ := blk14c hS3; obtain ⟨ul, u0, u1, u2, u3, u4, u5, u6, u7, u8, u9, u10, u11, u12, u13⟩ := blk14c hS4; go_simp; try with_reducible rfl)) ⟨hX.out, hA.out, hC.out, hD.out⟩ ?_
  simp only [Act.put]
  refine wpAnyT_take (i := 20) rfl (by kernel_rfl) (by kernel_rfl) (by kernel_rfl) rfl (by kernel_rfl) (fun _ _ _ h => h) (by kernel_rfl) (fun w' hS => (by obtain ⟨hS1, hS2, hS3, hS4⟩ := hS; obtain ⟨xl, x0, x1, x2, x3, x4, x5, x6, x7, x8, x9, x10, x11, x12, x13⟩ := blk14c hS1; obtain ⟨pl, p0, p1, p2, p3, p4, p5, p6, p7, p8, p9, p10, p11, p12, p13⟩ := blk14c hS2; obtain ⟨sl, s0, s1, s2, s3, s4, s5, s6, s7, s8, s9, s10, s11, s12, s13⟩ := blk14c hS3; obtain ⟨ul, u0, u1, u2, u3, u4, u5, u6, u7, u8, u9, u10, u11, u12, u13⟩ := blk14c hS4; go_simp; try with_reducible rfl)) ⟨hX.out, hA.out, hC.out, hD.out⟩ ?_
  simp only [Act.put]
  refine wpAnyT_take (i := 21) rfl (by kernel_rfl) (by kernel_rfl) (by kernel_rfl) rfl (by kernel_rfl) (fun _ _ _ h => h) (by kernel_rfl) (fun w' hS => (by obtain ⟨hS1, hS2, hS3, hS4⟩ := hS; obtain ⟨xl, x0, x1, x2, x3, x4, x5, x6, x7, x8, x9, x10, x11, x12, x13⟩ := blk14c hS1; obtain ⟨pl, p0, p1, p2, p3, p4, p5, p6, p7, p8, p9, p10, p11, p12, p13⟩ := blk14c hS2; obtain ⟨sl, s0, s1, s2, s3, s4, s5, s6, s7, s8, s9, s10, s11, s12, s13⟩ := blk14c hS3; obtain ⟨ul, u0, u1, u2, u3, u4, u5, u6, u7, u8, u9, u10, u11, u12, u13⟩ := blk14c hS4; go_simp; try with_reducible rfl)) ⟨hX.out, hA.out, hC.out, hD.out⟩ ?_
  simp only [Act.put]
  refine wpAnyT_take (i := 22) rfl (by kernel_rfl) (by kernel_rfl) (by kernel_rfl) rfl (by kernel_rfl) (fun _ _ _ h => h) (by kernel_rfl) (fun w' hS => (by obtain ⟨hS1, hS2, hS3, hS4⟩ := hS; obtain ⟨xl, x0, x1, x2, x3, x4, x5, x6, x7, x8, x9, x10, x11, x12, x13⟩ := blk14c hS1; obtain ⟨pl, p0, p1, p2, p3, p4, p5, p6, p7, p8, p9, p10, p11, p12, p13⟩ := blk14c hS2; obtain ⟨sl, s0, s1, s2, s3, s4, s5, s6, s7, s8, s9, s10, s11, s12, s13⟩ := blk14c hS3; obtain ⟨ul, u0, u1, u2, u3, u4, u5, u6, u7, u8, u9, u10, u11, u12, u13⟩ := blk14c hS4; go_simp; try with_reducible rfl)) ⟨hX.out, hA.out, hC.out, hD.out⟩ ?_
  simp only [Act.put]
  refine wpAnyT_one (i := 23) (by kernel_rfl) rfl (fun K hK => ?_)
  go_simp
  refine hK.out _ _ (fun _ => ⟨hX.out, hA.out, hC.out, hD.out⟩) ?_
  clear hK K
  try simp only [Act.put]
  refine wpAnyT_done (by kernel_rfl) ?_ _
  go_wp2
  refine ends_ret hQ (results_tmp rfl _ _ _) rfl ?_
  exact ⟨rfl, q12⟩
theorem LawLater_walk {w : World} (ht : Tab w) (mm : Int) (hm : w.cell? ⟨0, 0, none⟩ = some (.int .i64 mm)) (N : Nd) (a : NdA) (hN : NdOk w w.heap.size N a) (term : Int) (_ : -9223372036854775808 ≤ term) (_ : term ≤ 9223372036854775807) (d : Int) (_ : -9223372036854775808 ≤ d) (_ : d ≤ 9223372036854775807) :
    Calls Tryz.prog 3 #[nodeV N a, .int .i64 term, .int .i64 d] w fun e w' => e = .returned (.bool true) ∧ Below w.heap.size w w' := LawLater_any N a term d w hN ht mm hm
end Go.Proofs.YtnaindoeihnmpaaGreatDoor
