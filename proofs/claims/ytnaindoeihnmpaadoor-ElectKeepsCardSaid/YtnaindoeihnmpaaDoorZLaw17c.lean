/-
  WHAT IS PROVED HERE: the law ElectKeeps returns true: whatever is asked, a node that may be still may be. Conditions: the slices are of at most 2^47 elements; the library's table and MaxLen stand.
-/
import Derived.Test.YtnaindoeihnmpaaDoorZGKep
import Derived.Test.YtnaindoeihnmpaaDoorZCnt
import Derived.Test.YtnaindoeihnmpaaDoorZStd
import Derived.Test.YtnaindoeihnmpaaDoorZGMem
namespace Go.Proofs.YtnaindoeihnmpaaDoor
open Go.RowKit

theorem mgs_app {xs ys : List (Ms × MsA)} : mgsL (xs ++ ys) = mgsL xs ++ mgsL ys := by unfold mgsL; rw [List.flatMap_append]
set_option maxRecDepth 100000 in
set_option maxHeartbeats 12800000 in
theorem LawKeeps_any (N : Nd) (a : NdA) (M : Ms) (b : MsA) (term d : Int) (w : World) (hN : NdOk w w.heap.size N a) (hMs : MsOk w w.heap.size M b) (ht : Tab w) (mm : Int) (hm : w.cell? ⟨1, 0, none⟩ = some (.int .i64 mm)) :
    Calls Tryd.prog 5 #[nodeV N a, msgV M b, .int .i64 term, .int .i64 d] w fun e w' => e = .returned (.bool true) ∧ Below w.heap.size w w' := by
  have hm2 : Hid (∀ w', Below w.heap.size w w' → w'.cell? ⟨1, 0, none⟩ = some (.int .i64 mm)) := fun w' hb => (hb.cell (p := ⟨1, 0, none⟩) (cell_lt hm)).trans hm
  clear hm
  obtain ⟨z, hz⟩ : ∃ z, smallB N M = z := ⟨_, rfl⟩
  obtain ⟨zr, hzr⟩ : ∃ z, rightN N = z := ⟨_, rfl⟩
  replace hz := hid_mk hz
  replace hzr := hid_mk hzr
  have hX := hid_mk ((Blk.new w 30 #[.int .i64 N.id, .int .i64 N.h.t, .int .i64 N.h.v, .int .i64 N.h.l.base, .int .i64 N.h.l.bt, .slice a.R.A a.R.n a.R.c, .string N.h.s, .slice a.V.A a.V.n a.V.c, .int .i64 N.role, .int .i64 N.lead, .int .i64 N.timer, .int .i64 N.commit, .slice a.G.A a.G.n a.G.c, .slice a.P.A a.P.n a.P.c]).alloc (.cells #[.int .i64 M.kind, .int .i64 M.fr, .int .i64 M.to, .int .i64 M.term, .bool M.ok, .int .i64 M.index, .int .i64 M.lterm, .slice b.R.A b.R.n b.R.c, .int .i64 M.commit, .string M.s, .slice b.V.A b.V.n b.V.c] 32))
  have hB : Hid (Blk ((w.alloc (.cells #[.int .i64 N.id, .int .i64 N.h.t, .int .i64 N.h.v, .int .i64 N.h.l.base, .int .i64 N.h.l.bt, .slice a.R.A a.R.n a.R.c, .string N.h.s, .slice a.V.A a.V.n a.V.c, .int .i64 N.role, .int .i64 N.lead, .int .i64 N.timer, .int .i64 N.commit, .slice a.G.A a.G.n a.G.c, .slice a.P.A a.P.n a.P.c] 30)).alloc (.cells #[.int .i64 M.kind, .int .i64 M.fr, .int .i64 M.to, .int .i64 M.term, .bool M.ok, .int .i64 M.index, .int .i64 M.lterm, .slice b.R.A b.R.n b.R.c, .int .i64 M.commit, .string M.s, .slice b.V.A b.V.n b.V.c] 32)) (w.heap.size + 1) 32 #[.int .i64 M.kind, .int .i64 M.fr, .int .i64 M.to, .int .i64 M.term, .bool M.ok, .int .i64 M.index, .int .i64 M.lterm, .slice b.R.A b.R.n b.R.c, .int .i64 M.commit, .string M.s, .slice b.V.A b.V.n b.V.c]) := Blk.new_ (by simp)
  unfold nodeV msgV
  refine calls_of_wpQ Tryd.func5 rfl ?_
  intro Q hQ
  simp only [Tryd.ntmps5, List.size_toArray, List.length_cons, List.length_nil, Nat.reduceAdd, Nat.reduceSub, Array.replicate_succ, Array.replicate_zero, List.push_toArray, List.append_toArray, List.nil_append, List.cons_append]
  go_wp2_with fail
  refine (small_any N a M b _ (B := w.heap.size) (hN.to (by go_grown)) (hMs.to (by go_grown))).mono ?_
  rw [hz.out]
  rintro e w1 ⟨rfl, hb1⟩
  have q1 := (after (w := w) hb1 (by go_grown)).1
  have z1 := q1.size
  replace hX := hid_mk (hX.out.keep (after hb1 (by go_grown)).1)
  replace hB := hid_mk (hB.out.keep (after hb1 (by go_grown)).1)
  clear hb1
  cases z
  case false =>
    go_wp2_with fail
    refine (alive_any _ (ht.to (by go_grown))).mono ?_
    rintro e w2 ⟨rfl, hb1⟩
    have q2 := (after (w := w) hb1 (by go_grown)).1
    have z2 := q2.size
    replace hX := hid_mk (hX.out.keep (after hb1 (by go_grown)).1)
    replace hB := hid_mk (hB.out.keep (after hb1 (by go_grown)).1)
    clear hb1
    go_wp2
    refine ends_ret hQ (results_tmp rfl _ _ _) rfl ?_
    exact ⟨rfl, q2⟩
  go_wp2_with fail
  refine (alive_any _ (ht.to (by go_grown))).mono ?_
  rintro e w2 ⟨rfl, hb1⟩
  have q2 := (after (w := w) hb1 (by go_grown)).1
  have z2 := q2.size
  replace hX := hid_mk (hX.out.keep (after hb1 (by go_grown)).1)
  replace hB := hid_mk (hB.out.keep (after hb1 (by go_grown)).1)
  clear hb1
  obtain ⟨xl, x0, x1, x2, x3, x4, x5, x6, x7, x8, x9, x10, x11, x12, x13⟩ := blk14c hX.out
  go_wp2_with fail
  clear xl x0 x1 x2 x3 x4 x5 x6 x7 x8 x9 x10 x11 x12 x13
  refine (ERight_any N a _ (B := w.heap.size) (hN.to (by go_grown)) (ht.to (by go_grown))).mono ?_
  rw [hzr.out]
  rintro e w3 ⟨rfl, hb1⟩
  have q3 := (after (w := w) hb1 (by go_grown)).1
  have z3 := q3.size
  replace hX := hid_mk (hX.out.keep (after hb1 (by go_grown)).1)
  replace hB := hid_mk (hB.out.keep (after hb1 (by go_grown)).1)
  clear hb1
  cases zr
  case false =>
    go_wp2_with fail
    refine (alive_any _ (ht.to (by go_grown))).mono ?_
    rintro e w4 ⟨rfl, hb1⟩
    have q4 := (after (w := w) hb1 (by go_grown)).1
    have z4 := q4.size
    replace hX := hid_mk (hX.out.keep (after hb1 (by go_grown)).1)
    replace hB := hid_mk (hB.out.keep (after hb1 (by go_grown)).1)
    clear hb1
    go_wp2
    refine ends_ret hQ (results_tmp rfl _ _ _) rfl ?_
    exact ⟨rfl, q4⟩
  obtain ⟨N1, hN1⟩ : ∃ z, laterN N term = z := ⟨_, rfl⟩
  obtain ⟨a1, ha1⟩ : ∃ z, laterA N term a = z := ⟨_, rfl⟩
  obtain ⟨N2, hN2⟩ : ∃ z, standN N d = z := ⟨_, rfl⟩
  obtain ⟨N3, hN3⟩ : ∃ z, voteN N M d = z := ⟨_, rfl⟩
  obtain ⟨N4, hN4⟩ : ∃ z, countN N M = z := ⟨_, rfl⟩
  obtain ⟨L1, hLa⟩ : ∃ z, standL N = z := ⟨_, rfl⟩
  obtain ⟨L2, hLb⟩ : ∃ z, voteL N M = z := ⟨_, rfl⟩
  obtain ⟨W2, hW2⟩ : ∃ z, standW N = z := ⟨_, rfl⟩
  obtain ⟨W4, hW4⟩ : ∃ z, countW N M = z := ⟨_, rfl⟩
  have s1 : Hid (Stays N N1) := by rw [← hN1]; exact stays_later hzr.out hz.out term
  have s2 : Hid (Stays N N2) := by rw [← hN2]; exact stays_stand hzr.out hz.out d
  have s3 : Hid (Stays N N3) := by rw [← hN3]; exact stays_vote hzr.out hz.out d
  have s4 : Hid (Stays N N4) := by rw [← hN4]; exact stays_count hzr.out
  have hmay : Hid (∀ x ∈ L1 ++ L2, mayM x = true ∧ x.fr = N.id) := by
    intro x hx
    rcases List.mem_append.1 hx with h | h
    · rw [← hLa] at h; exact ask_may hzr.out h
    · rw [← hLb] at h; exact reply_may hzr.out h
  have hok1 : Hid (NdOk w w.heap.size N1 a1) := by rw [← hN1, ← ha1]; exact laterOk hN term
  have hok3 : Hid (NdOk w w.heap.size N3 a) := by rw [← hN3]; exact voteOk hN M d
  replace hN1 := hid_mk hN1
  replace ha1 := hid_mk ha1
  replace hN2 := hid_mk hN2
  replace hN3 := hid_mk hN3
  replace hN4 := hid_mk hN4
  replace hLa := hid_mk hLa
  replace hLb := hid_mk hLb
  replace hW2 := hid_mk hW2
  replace hW4 := hid_mk hW4
  obtain ⟨xl, x0, x1, x2, x3, x4, x5, x6, x7, x8, x9, x10, x11, x12, x13⟩ := blk14c hX.out
  go_wp2_with fail
  clear xl x0 x1 x2 x3 x4 x5 x6 x7 x8 x9 x10 x11 x12 x13
  refine (Later_any N a term _ (B := w.heap.size) (hN.to (by go_grown)) (ht.to (by go_grown))).mono ?_
  rw [hN1.out, ha1.out]
  rintro e w4 ⟨rfl, hb1⟩
  have q4 := (after (w := w) hb1 (by go_grown)).1
  have z4 := q4.size
  replace hX := hid_mk (hX.out.keep (after hb1 (by go_grown)).1)
  replace hB := hid_mk (hB.out.keep (after hb1 (by go_grown)).1)
  clear hb1
  unfold nodeV
  obtain ⟨g4, hg4⟩ : ∃ g, w4.heap.size = g := ⟨_, rfl⟩
  replace hX := hid_mk (hX.out.alloc (.cells #[.int .i64 N1.id, .int .i64 N1.h.t, .int .i64 N1.h.v, .int .i64 N1.h.l.base, .int .i64 N1.h.l.bt, .slice a1.R.A a1.R.n a1.R.c, .string N1.h.s, .slice a1.V.A a1.V.n a1.V.c, .int .i64 N1.role, .int .i64 N1.lead, .int .i64 N1.timer, .int .i64 N1.commit, .slice a1.G.A a1.G.n a1.G.c, .slice a1.P.A a1.P.n a1.P.c] 30))
  replace hB := hid_mk (hB.out.alloc (.cells #[.int .i64 N1.id, .int .i64 N1.h.t, .int .i64 N1.h.v, .int .i64 N1.h.l.base, .int .i64 N1.h.l.bt, .slice a1.R.A a1.R.n a1.R.c, .string N1.h.s, .slice a1.V.A a1.V.n a1.V.c, .int .i64 N1.role, .int .i64 N1.lead, .int .i64 N1.timer, .int .i64 N1.commit, .slice a1.G.A a1.G.n a1.G.c, .slice a1.P.A a1.P.n a1.P.c] 30))
  have hX4 : Hid (Blk (w4.alloc (.cells #[.int .i64 N1.id, .int .i64 N1.h.t, .int .i64 N1.h.v, .int .i64 N1.h.l.base, .int .i64 N1.h.l.bt, .slice a1.R.A a1.R.n a1.R.c, .string N1.h.s, .slice a1.V.A a1.V.n a1.V.c, .int .i64 N1.role, .int .i64 N1.lead, .int .i64 N1.timer, .int .i64 N1.commit, .slice a1.G.A a1.G.n a1.G.c, .slice a1.P.A a1.P.n a1.P.c] 30)) g4 30 #[.int .i64 N1.id, .int .i64 N1.h.t, .int .i64 N1.h.v, .int .i64 N1.h.l.base, .int .i64 N1.h.l.bt, .slice a1.R.A a1.R.n a1.R.c, .string N1.h.s, .slice a1.V.A a1.V.n a1.V.c, .int .i64 N1.role, .int .i64 N1.lead, .int .i64 N1.timer, .int .i64 N1.commit, .slice a1.G.A a1.G.n a1.G.c, .slice a1.P.A a1.P.n a1.P.c]) := by rw [← hg4]; exact Blk.new _ _ _
  have p4 : Below w.heap.size w (w4.alloc (.cells #[.int .i64 N1.id, .int .i64 N1.h.t, .int .i64 N1.h.v, .int .i64 N1.h.l.base, .int .i64 N1.h.l.bt, .slice a1.R.A a1.R.n a1.R.c, .string N1.h.s, .slice a1.V.A a1.V.n a1.V.c, .int .i64 N1.role, .int .i64 N1.lead, .int .i64 N1.timer, .int .i64 N1.commit, .slice a1.G.A a1.G.n a1.G.c, .slice a1.P.A a1.P.n a1.P.c] 30)) := q4.alloc q4.size _
  replace hg4 := hid_mk hg4
  obtain ⟨xl, x0, x1, x2, x3, x4, x5, x6, x7, x8, x9, x10, x11, x12, x13⟩ := blk14c hX.out
  go_wp2_with fail
  try rw [hg4.out]
  clear xl x0 x1 x2 x3 x4 x5 x6 x7 x8 x9 x10 x11 x12 x13
  refine (Stand_any N a d _ (B := w.heap.size) (hN.to (by go_grown)) (ht.to (by go_grown)) mm (hm2.out _ (by go_grown))).mono ?_
  rw [hN2.out, hLa.out, hW2.out]
  rintro e w5 ⟨⟨a2, A1, n1, c1, rfl, hok2, hL1, hc1⟩, hb1⟩
  have q5 := (after (w := w) hb1 (by go_grown)).1
  have z5 := q5.size
  replace hX := hid_mk (hX.out.keep (after hb1 (by go_grown)).1)
  replace hB := hid_mk (hB.out.keep (after hb1 (by go_grown)).1)
  replace hX4 := hid_mk (hX4.out.keep (after hb1 (by go_grown)).1)
  clear hb1
  replace hok2 := hid_mk hok2
  replace hL1 := hid_mk hL1
  unfold nodeV
  obtain ⟨g5, hg5⟩ : ∃ g, w5.heap.size = g := ⟨_, rfl⟩
  replace hX := hid_mk (hX.out.alloc (.cells #[.int .i64 N2.id, .int .i64 N2.h.t, .int .i64 N2.h.v, .int .i64 N2.h.l.base, .int .i64 N2.h.l.bt, .slice a2.R.A a2.R.n a2.R.c, .string N2.h.s, .slice a2.V.A a2.V.n a2.V.c, .int .i64 N2.role, .int .i64 N2.lead, .int .i64 N2.timer, .int .i64 N2.commit, .slice a2.G.A a2.G.n a2.G.c, .slice a2.P.A a2.P.n a2.P.c] 30))
  replace hB := hid_mk (hB.out.alloc (.cells #[.int .i64 N2.id, .int .i64 N2.h.t, .int .i64 N2.h.v, .int .i64 N2.h.l.base, .int .i64 N2.h.l.bt, .slice a2.R.A a2.R.n a2.R.c, .string N2.h.s, .slice a2.V.A a2.V.n a2.V.c, .int .i64 N2.role, .int .i64 N2.lead, .int .i64 N2.timer, .int .i64 N2.commit, .slice a2.G.A a2.G.n a2.G.c, .slice a2.P.A a2.P.n a2.P.c] 30))
  replace hX4 := hid_mk (hX4.out.alloc (.cells #[.int .i64 N2.id, .int .i64 N2.h.t, .int .i64 N2.h.v, .int .i64 N2.h.l.base, .int .i64 N2.h.l.bt, .slice a2.R.A a2.R.n a2.R.c, .string N2.h.s, .slice a2.V.A a2.V.n a2.V.c, .int .i64 N2.role, .int .i64 N2.lead, .int .i64 N2.timer, .int .i64 N2.commit, .slice a2.G.A a2.G.n a2.G.c, .slice a2.P.A a2.P.n a2.P.c] 30))
  replace hL1 := hid_mk (hL1.out.to ((Below.refl _ _).alloc (Nat.le_refl _) (.cells #[.int .i64 N2.id, .int .i64 N2.h.t, .int .i64 N2.h.v, .int .i64 N2.h.l.base, .int .i64 N2.h.l.bt, .slice a2.R.A a2.R.n a2.R.c, .string N2.h.s, .slice a2.V.A a2.V.n a2.V.c, .int .i64 N2.role, .int .i64 N2.lead, .int .i64 N2.timer, .int .i64 N2.commit, .slice a2.G.A a2.G.n a2.G.c, .slice a2.P.A a2.P.n a2.P.c] 30)))
  replace hok2 := hid_mk (hok2.out.to ((Below.refl _ _).alloc (Nat.le_refl _) (.cells #[.int .i64 N2.id, .int .i64 N2.h.t, .int .i64 N2.h.v, .int .i64 N2.h.l.base, .int .i64 N2.h.l.bt, .slice a2.R.A a2.R.n a2.R.c, .string N2.h.s, .slice a2.V.A a2.V.n a2.V.c, .int .i64 N2.role, .int .i64 N2.lead, .int .i64 N2.timer, .int .i64 N2.commit, .slice a2.G.A a2.G.n a2.G.c, .slice a2.P.A a2.P.n a2.P.c] 30)))
  have hX5 : Hid (Blk (w5.alloc (.cells #[.int .i64 N2.id, .int .i64 N2.h.t, .int .i64 N2.h.v, .int .i64 N2.h.l.base, .int .i64 N2.h.l.bt, .slice a2.R.A a2.R.n a2.R.c, .string N2.h.s, .slice a2.V.A a2.V.n a2.V.c, .int .i64 N2.role, .int .i64 N2.lead, .int .i64 N2.timer, .int .i64 N2.commit, .slice a2.G.A a2.G.n a2.G.c, .slice a2.P.A a2.P.n a2.P.c] 30)) g5 30 #[.int .i64 N2.id, .int .i64 N2.h.t, .int .i64 N2.h.v, .int .i64 N2.h.l.base, .int .i64 N2.h.l.bt, .slice a2.R.A a2.R.n a2.R.c, .string N2.h.s, .slice a2.V.A a2.V.n a2.V.c, .int .i64 N2.role, .int .i64 N2.lead, .int .i64 N2.timer, .int .i64 N2.commit, .slice a2.G.A a2.G.n a2.G.c, .slice a2.P.A a2.P.n a2.P.c]) := by rw [← hg5]; exact Blk.new _ _ _
  have p5 : Below w.heap.size w (w5.alloc (.cells #[.int .i64 N2.id, .int .i64 N2.h.t, .int .i64 N2.h.v, .int .i64 N2.h.l.base, .int .i64 N2.h.l.bt, .slice a2.R.A a2.R.n a2.R.c, .string N2.h.s, .slice a2.V.A a2.V.n a2.V.c, .int .i64 N2.role, .int .i64 N2.lead, .int .i64 N2.timer, .int .i64 N2.commit, .slice a2.G.A a2.G.n a2.G.c, .slice a2.P.A a2.P.n a2.P.c] 30)) := q5.alloc q5.size _
  replace hg5 := hid_mk hg5
  obtain ⟨xl, x0, x1, x2, x3, x4, x5, x6, x7, x8, x9, x10, x11, x12, x13⟩ := blk14c hX.out
  obtain ⟨ml, m0, m1, m2, m3, m4, m5, m6, m7, m8, m9, m10⟩ := blk11v hB.out
  go_wp2_with fail
  try rw [hg5.out]
  clear xl x0 x1 x2 x3 x4 x5 x6 x7 x8 x9 x10 x11 x12 x13
  clear ml m0 m1 m2 m3 m4 m5 m6 m7 m8 m9 m10
  refine (Vote_any N a M b d _ (B := w.heap.size) (hN.to (by go_grown)) (hMs.to (by go_grown)) (ht.to (by go_grown))).mono ?_
  rw [hN3.out, hLb.out]
  rintro e w6 ⟨⟨A2, n2, c2, rfl, hL2, hc2⟩, hb1⟩
  have q6 := (after (w := w) hb1 (by go_grown)).1
  have z6 := q6.size
  replace hX := hid_mk (hX.out.keep (after hb1 (by go_grown)).1)
  replace hB := hid_mk (hB.out.keep (after hb1 (by go_grown)).1)
  replace hX4 := hid_mk (hX4.out.keep (after hb1 (by go_grown)).1)
  replace hX5 := hid_mk (hX5.out.keep (after hb1 (by go_grown)).1)
  replace hL1 := hid_mk (hL1.out.to (after hb1 (by go_grown)).1)
  replace hok2 := hid_mk (hok2.out.to (after hb1 (by go_grown)).1)
  clear hb1
  replace hL2 := hid_mk hL2
  unfold nodeV
  obtain ⟨g6, hg6⟩ : ∃ g, w6.heap.size = g := ⟨_, rfl⟩
  replace hX := hid_mk (hX.out.alloc (.cells #[.int .i64 N3.id, .int .i64 N3.h.t, .int .i64 N3.h.v, .int .i64 N3.h.l.base, .int .i64 N3.h.l.bt, .slice a.R.A a.R.n a.R.c, .string N3.h.s, .slice a.V.A a.V.n a.V.c, .int .i64 N3.role, .int .i64 N3.lead, .int .i64 N3.timer, .int .i64 N3.commit, .slice a.G.A a.G.n a.G.c, .slice a.P.A a.P.n a.P.c] 30))
  replace hB := hid_mk (hB.out.alloc (.cells #[.int .i64 N3.id, .int .i64 N3.h.t, .int .i64 N3.h.v, .int .i64 N3.h.l.base, .int .i64 N3.h.l.bt, .slice a.R.A a.R.n a.R.c, .string N3.h.s, .slice a.V.A a.V.n a.V.c, .int .i64 N3.role, .int .i64 N3.lead, .int .i64 N3.timer, .int .i64 N3.commit, .slice a.G.A a.G.n a.G.c, .slice a.P.A a.P.n a.P.c] 30))
  replace hX4 := hid_mk (hX4.out.alloc (.cells #[.int .i64 N3.id, .int .i64 N3.h.t, .int .i64 N3.h.v, .int .i64 N3.h.l.base, .int .i64 N3.h.l.bt, .slice a.R.A a.R.n a.R.c, .string N3.h.s, .slice a.V.A a.V.n a.V.c, .int .i64 N3.role, .int .i64 N3.lead, .int .i64 N3.timer, .int .i64 N3.commit, .slice a.G.A a.G.n a.G.c, .slice a.P.A a.P.n a.P.c] 30))
  replace hX5 := hid_mk (hX5.out.alloc (.cells #[.int .i64 N3.id, .int .i64 N3.h.t, .int .i64 N3.h.v, .int .i64 N3.h.l.base, .int .i64 N3.h.l.bt, .slice a.R.A a.R.n a.R.c, .string N3.h.s, .slice a.V.A a.V.n a.V.c, .int .i64 N3.role, .int .i64 N3.lead, .int .i64 N3.timer, .int .i64 N3.commit, .slice a.G.A a.G.n a.G.c, .slice a.P.A a.P.n a.P.c] 30))
  replace hL1 := hid_mk (hL1.out.to ((Below.refl _ _).alloc (Nat.le_refl _) (.cells #[.int .i64 N3.id, .int .i64 N3.h.t, .int .i64 N3.h.v, .int .i64 N3.h.l.base, .int .i64 N3.h.l.bt, .slice a.R.A a.R.n a.R.c, .string N3.h.s, .slice a.V.A a.V.n a.V.c, .int .i64 N3.role, .int .i64 N3.lead, .int .i64 N3.timer, .int .i64 N3.commit, .slice a.G.A a.G.n a.G.c, .slice a.P.A a.P.n a.P.c] 30)))
  replace hok2 := hid_mk (hok2.out.to ((Below.refl _ _).alloc (Nat.le_refl _) (.cells #[.int .i64 N3.id, .int .i64 N3.h.t, .int .i64 N3.h.v, .int .i64 N3.h.l.base, .int .i64 N3.h.l.bt, .slice a.R.A a.R.n a.R.c, .string N3.h.s, .slice a.V.A a.V.n a.V.c, .int .i64 N3.role, .int .i64 N3.lead, .int .i64 N3.timer, .int .i64 N3.commit, .slice a.G.A a.G.n a.G.c, .slice a.P.A a.P.n a.P.c] 30)))
  replace hL2 := hid_mk (hL2.out.to ((Below.refl _ _).alloc (Nat.le_refl _) (.cells #[.int .i64 N3.id, .int .i64 N3.h.t, .int .i64 N3.h.v, .int .i64 N3.h.l.base, .int .i64 N3.h.l.bt, .slice a.R.A a.R.n a.R.c, .string N3.h.s, .slice a.V.A a.V.n a.V.c, .int .i64 N3.role, .int .i64 N3.lead, .int .i64 N3.timer, .int .i64 N3.commit, .slice a.G.A a.G.n a.G.c, .slice a.P.A a.P.n a.P.c] 30)))
  have hX6 : Hid (Blk (w6.alloc (.cells #[.int .i64 N3.id, .int .i64 N3.h.t, .int .i64 N3.h.v, .int .i64 N3.h.l.base, .int .i64 N3.h.l.bt, .slice a.R.A a.R.n a.R.c, .string N3.h.s, .slice a.V.A a.V.n a.V.c, .int .i64 N3.role, .int .i64 N3.lead, .int .i64 N3.timer, .int .i64 N3.commit, .slice a.G.A a.G.n a.G.c, .slice a.P.A a.P.n a.P.c] 30)) g6 30 #[.int .i64 N3.id, .int .i64 N3.h.t, .int .i64 N3.h.v, .int .i64 N3.h.l.base, .int .i64 N3.h.l.bt, .slice a.R.A a.R.n a.R.c, .string N3.h.s, .slice a.V.A a.V.n a.V.c, .int .i64 N3.role, .int .i64 N3.lead, .int .i64 N3.timer, .int .i64 N3.commit, .slice a.G.A a.G.n a.G.c, .slice a.P.A a.P.n a.P.c]) := by rw [← hg6]; exact Blk.new _ _ _
  have p6 : Below w.heap.size w (w6.alloc (.cells #[.int .i64 N3.id, .int .i64 N3.h.t, .int .i64 N3.h.v, .int .i64 N3.h.l.base, .int .i64 N3.h.l.bt, .slice a.R.A a.R.n a.R.c, .string N3.h.s, .slice a.V.A a.V.n a.V.c, .int .i64 N3.role, .int .i64 N3.lead, .int .i64 N3.timer, .int .i64 N3.commit, .slice a.G.A a.G.n a.G.c, .slice a.P.A a.P.n a.P.c] 30)) := q6.alloc q6.size _
  replace hg6 := hid_mk hg6
  obtain ⟨xl, x0, x1, x2, x3, x4, x5, x6, x7, x8, x9, x10, x11, x12, x13⟩ := blk14c hX.out
  obtain ⟨ml, m0, m1, m2, m3, m4, m5, m6, m7, m8, m9, m10⟩ := blk11v hB.out
  go_wp2_with fail
  try rw [hg6.out]
  clear xl x0 x1 x2 x3 x4 x5 x6 x7 x8 x9 x10 x11 x12 x13
  clear ml m0 m1 m2 m3 m4 m5 m6 m7 m8 m9 m10
  refine (Count_any N a M b _ (B := w.heap.size) p6.size (hN.to (by go_grown)) (hMs.to (by go_grown)) (ht.to (by go_grown)) mm (hm2.out _ (by go_grown))).mono ?_
  rw [hN4.out, hW4.out]
  rintro e w7 ⟨⟨a4, rfl, hok4⟩, hb1⟩
  have q7 := (after (w := w) hb1 (by go_grown)).1
  have z7 := q7.size
  replace hX := hid_mk (hX.out.keep (after hb1 (by go_grown)).1)
  replace hB := hid_mk (hB.out.keep (after hb1 (by go_grown)).1)
  replace hX4 := hid_mk (hX4.out.keep (after hb1 (by go_grown)).1)
  replace hX5 := hid_mk (hX5.out.keep (after hb1 (by go_grown)).1)
  replace hL1 := hid_mk (hL1.out.to (after hb1 (by go_grown)).1)
  replace hok2 := hid_mk (hok2.out.to (after hb1 (by go_grown)).1)
  replace hX6 := hid_mk (hX6.out.keep (after hb1 (by go_grown)).1)
  replace hL2 := hid_mk (hL2.out.to (after hb1 (by go_grown)).1)
  clear hb1
  replace hok4 := hid_mk hok4
  unfold nodeV
  obtain ⟨g7, hg7⟩ : ∃ g, w7.heap.size = g := ⟨_, rfl⟩
  replace hX := hid_mk (hX.out.alloc (.cells #[.int .i64 N4.id, .int .i64 N4.h.t, .int .i64 N4.h.v, .int .i64 N4.h.l.base, .int .i64 N4.h.l.bt, .slice a4.R.A a4.R.n a4.R.c, .string N4.h.s, .slice a4.V.A a4.V.n a4.V.c, .int .i64 N4.role, .int .i64 N4.lead, .int .i64 N4.timer, .int .i64 N4.commit, .slice a4.G.A a4.G.n a4.G.c, .slice a4.P.A a4.P.n a4.P.c] 30))
  replace hB := hid_mk (hB.out.alloc (.cells #[.int .i64 N4.id, .int .i64 N4.h.t, .int .i64 N4.h.v, .int .i64 N4.h.l.base, .int .i64 N4.h.l.bt, .slice a4.R.A a4.R.n a4.R.c, .string N4.h.s, .slice a4.V.A a4.V.n a4.V.c, .int .i64 N4.role, .int .i64 N4.lead, .int .i64 N4.timer, .int .i64 N4.commit, .slice a4.G.A a4.G.n a4.G.c, .slice a4.P.A a4.P.n a4.P.c] 30))
  replace hX4 := hid_mk (hX4.out.alloc (.cells #[.int .i64 N4.id, .int .i64 N4.h.t, .int .i64 N4.h.v, .int .i64 N4.h.l.base, .int .i64 N4.h.l.bt, .slice a4.R.A a4.R.n a4.R.c, .string N4.h.s, .slice a4.V.A a4.V.n a4.V.c, .int .i64 N4.role, .int .i64 N4.lead, .int .i64 N4.timer, .int .i64 N4.commit, .slice a4.G.A a4.G.n a4.G.c, .slice a4.P.A a4.P.n a4.P.c] 30))
  replace hX5 := hid_mk (hX5.out.alloc (.cells #[.int .i64 N4.id, .int .i64 N4.h.t, .int .i64 N4.h.v, .int .i64 N4.h.l.base, .int .i64 N4.h.l.bt, .slice a4.R.A a4.R.n a4.R.c, .string N4.h.s, .slice a4.V.A a4.V.n a4.V.c, .int .i64 N4.role, .int .i64 N4.lead, .int .i64 N4.timer, .int .i64 N4.commit, .slice a4.G.A a4.G.n a4.G.c, .slice a4.P.A a4.P.n a4.P.c] 30))
  replace hL1 := hid_mk (hL1.out.to ((Below.refl _ _).alloc (Nat.le_refl _) (.cells #[.int .i64 N4.id, .int .i64 N4.h.t, .int .i64 N4.h.v, .int .i64 N4.h.l.base, .int .i64 N4.h.l.bt, .slice a4.R.A a4.R.n a4.R.c, .string N4.h.s, .slice a4.V.A a4.V.n a4.V.c, .int .i64 N4.role, .int .i64 N4.lead, .int .i64 N4.timer, .int .i64 N4.commit, .slice a4.G.A a4.G.n a4.G.c, .slice a4.P.A a4.P.n a4.P.c] 30)))
  replace hok2 := hid_mk (hok2.out.to ((Below.refl _ _).alloc (Nat.le_refl _) (.cells #[.int .i64 N4.id, .int .i64 N4.h.t, .int .i64 N4.h.v, .int .i64 N4.h.l.base, .int .i64 N4.h.l.bt, .slice a4.R.A a4.R.n a4.R.c, .string N4.h.s, .slice a4.V.A a4.V.n a4.V.c, .int .i64 N4.role, .int .i64 N4.lead, .int .i64 N4.timer, .int .i64 N4.commit, .slice a4.G.A a4.G.n a4.G.c, .slice a4.P.A a4.P.n a4.P.c] 30)))
  replace hX6 := hid_mk (hX6.out.alloc (.cells #[.int .i64 N4.id, .int .i64 N4.h.t, .int .i64 N4.h.v, .int .i64 N4.h.l.base, .int .i64 N4.h.l.bt, .slice a4.R.A a4.R.n a4.R.c, .string N4.h.s, .slice a4.V.A a4.V.n a4.V.c, .int .i64 N4.role, .int .i64 N4.lead, .int .i64 N4.timer, .int .i64 N4.commit, .slice a4.G.A a4.G.n a4.G.c, .slice a4.P.A a4.P.n a4.P.c] 30))
  replace hL2 := hid_mk (hL2.out.to ((Below.refl _ _).alloc (Nat.le_refl _) (.cells #[.int .i64 N4.id, .int .i64 N4.h.t, .int .i64 N4.h.v, .int .i64 N4.h.l.base, .int .i64 N4.h.l.bt, .slice a4.R.A a4.R.n a4.R.c, .string N4.h.s, .slice a4.V.A a4.V.n a4.V.c, .int .i64 N4.role, .int .i64 N4.lead, .int .i64 N4.timer, .int .i64 N4.commit, .slice a4.G.A a4.G.n a4.G.c, .slice a4.P.A a4.P.n a4.P.c] 30)))
  have hX7 : Hid (Blk (w7.alloc (.cells #[.int .i64 N4.id, .int .i64 N4.h.t, .int .i64 N4.h.v, .int .i64 N4.h.l.base, .int .i64 N4.h.l.bt, .slice a4.R.A a4.R.n a4.R.c, .string N4.h.s, .slice a4.V.A a4.V.n a4.V.c, .int .i64 N4.role, .int .i64 N4.lead, .int .i64 N4.timer, .int .i64 N4.commit, .slice a4.G.A a4.G.n a4.G.c, .slice a4.P.A a4.P.n a4.P.c] 30)) g7 30 #[.int .i64 N4.id, .int .i64 N4.h.t, .int .i64 N4.h.v, .int .i64 N4.h.l.base, .int .i64 N4.h.l.bt, .slice a4.R.A a4.R.n a4.R.c, .string N4.h.s, .slice a4.V.A a4.V.n a4.V.c, .int .i64 N4.role, .int .i64 N4.lead, .int .i64 N4.timer, .int .i64 N4.commit, .slice a4.G.A a4.G.n a4.G.c, .slice a4.P.A a4.P.n a4.P.c]) := by rw [← hg7]; exact Blk.new _ _ _
  have p7 : Below w.heap.size w (w7.alloc (.cells #[.int .i64 N4.id, .int .i64 N4.h.t, .int .i64 N4.h.v, .int .i64 N4.h.l.base, .int .i64 N4.h.l.bt, .slice a4.R.A a4.R.n a4.R.c, .string N4.h.s, .slice a4.V.A a4.V.n a4.V.c, .int .i64 N4.role, .int .i64 N4.lead, .int .i64 N4.timer, .int .i64 N4.commit, .slice a4.G.A a4.G.n a4.G.c, .slice a4.P.A a4.P.n a4.P.c] 30)) := q7.alloc q7.size _
  replace hg7 := hid_mk hg7
  have hRB : Blk ((w7.alloc (.cells #[.int .i64 N4.id, .int .i64 N4.h.t, .int .i64 N4.h.v, .int .i64 N4.h.l.base, .int .i64 N4.h.l.bt, .slice a4.R.A a4.R.n a4.R.c, .string N4.h.s, .slice a4.V.A a4.V.n a4.V.c, .int .i64 N4.role, .int .i64 N4.lead, .int .i64 N4.timer, .int .i64 N4.commit, .slice a4.G.A a4.G.n a4.G.c, .slice a4.P.A a4.P.n a4.P.c] 30)).alloc (.cells #[.int .i64 N1.id, .int .i64 N1.h.t, .int .i64 N1.h.v, .int .i64 N1.h.l.base, .int .i64 N1.h.l.bt, .slice a1.R.A a1.R.n a1.R.c, .string N1.h.s, .slice a1.V.A a1.V.n a1.V.c, .int .i64 N1.role, .int .i64 N1.lead, .int .i64 N1.timer, .int .i64 N1.commit, .slice a1.G.A a1.G.n a1.G.c, .slice a1.P.A a1.P.n a1.P.c, .int .i64 N2.id, .int .i64 N2.h.t, .int .i64 N2.h.v, .int .i64 N2.h.l.base, .int .i64 N2.h.l.bt, .slice a2.R.A a2.R.n a2.R.c, .string N2.h.s, .slice a2.V.A a2.V.n a2.V.c, .int .i64 N2.role, .int .i64 N2.lead, .int .i64 N2.timer, .int .i64 N2.commit, .slice a2.G.A a2.G.n a2.G.c, .slice a2.P.A a2.P.n a2.P.c, .int .i64 N3.id, .int .i64 N3.h.t, .int .i64 N3.h.v, .int .i64 N3.h.l.base, .int .i64 N3.h.l.bt, .slice a.R.A a.R.n a.R.c, .string N3.h.s, .slice a.V.A a.V.n a.V.c, .int .i64 N3.role, .int .i64 N3.lead, .int .i64 N3.timer, .int .i64 N3.commit, .slice a.G.A a.G.n a.G.c, .slice a.P.A a.P.n a.P.c, .int .i64 N4.id, .int .i64 N4.h.t, .int .i64 N4.h.v, .int .i64 N4.h.l.base, .int .i64 N4.h.l.bt, .slice a4.R.A a4.R.n a4.R.c, .string N4.h.s, .slice a4.V.A a4.V.n a4.V.c, .int .i64 N4.role, .int .i64 N4.lead, .int .i64 N4.timer, .int .i64 N4.commit, .slice a4.G.A a4.G.n a4.G.c, .slice a4.P.A a4.P.n a4.P.c] 30)) (g7 + 1) 30 (ndsL [(N1, a1), (N2, a2), (N3, a), (N4, a4)]).toArray := by
    rw [← hg7.out]
    exact Blk.new_ (by simp)
  have pR : Below w.heap.size w ((w7.alloc (.cells #[.int .i64 N4.id, .int .i64 N4.h.t, .int .i64 N4.h.v, .int .i64 N4.h.l.base, .int .i64 N4.h.l.bt, .slice a4.R.A a4.R.n a4.R.c, .string N4.h.s, .slice a4.V.A a4.V.n a4.V.c, .int .i64 N4.role, .int .i64 N4.lead, .int .i64 N4.timer, .int .i64 N4.commit, .slice a4.G.A a4.G.n a4.G.c, .slice a4.P.A a4.P.n a4.P.c] 30)).alloc (.cells #[.int .i64 N1.id, .int .i64 N1.h.t, .int .i64 N1.h.v, .int .i64 N1.h.l.base, .int .i64 N1.h.l.bt, .slice a1.R.A a1.R.n a1.R.c, .string N1.h.s, .slice a1.V.A a1.V.n a1.V.c, .int .i64 N1.role, .int .i64 N1.lead, .int .i64 N1.timer, .int .i64 N1.commit, .slice a1.G.A a1.G.n a1.G.c, .slice a1.P.A a1.P.n a1.P.c, .int .i64 N2.id, .int .i64 N2.h.t, .int .i64 N2.h.v, .int .i64 N2.h.l.base, .int .i64 N2.h.l.bt, .slice a2.R.A a2.R.n a2.R.c, .string N2.h.s, .slice a2.V.A a2.V.n a2.V.c, .int .i64 N2.role, .int .i64 N2.lead, .int .i64 N2.timer, .int .i64 N2.commit, .slice a2.G.A a2.G.n a2.G.c, .slice a2.P.A a2.P.n a2.P.c, .int .i64 N3.id, .int .i64 N3.h.t, .int .i64 N3.h.v, .int .i64 N3.h.l.base, .int .i64 N3.h.l.bt, .slice a.R.A a.R.n a.R.c, .string N3.h.s, .slice a.V.A a.V.n a.V.c, .int .i64 N3.role, .int .i64 N3.lead, .int .i64 N3.timer, .int .i64 N3.commit, .slice a.G.A a.G.n a.G.c, .slice a.P.A a.P.n a.P.c, .int .i64 N4.id, .int .i64 N4.h.t, .int .i64 N4.h.v, .int .i64 N4.h.l.base, .int .i64 N4.h.l.bt, .slice a4.R.A a4.R.n a4.R.c, .string N4.h.s, .slice a4.V.A a4.V.n a4.V.c, .int .i64 N4.role, .int .i64 N4.lead, .int .i64 N4.timer, .int .i64 N4.commit, .slice a4.G.A a4.G.n a4.G.c, .slice a4.P.A a4.P.n a4.P.c] 30)) := p7.alloc p7.size _
  have hRow : Hid (Nds ((w7.alloc (.cells #[.int .i64 N4.id, .int .i64 N4.h.t, .int .i64 N4.h.v, .int .i64 N4.h.l.base, .int .i64 N4.h.l.bt, .slice a4.R.A a4.R.n a4.R.c, .string N4.h.s, .slice a4.V.A a4.V.n a4.V.c, .int .i64 N4.role, .int .i64 N4.lead, .int .i64 N4.timer, .int .i64 N4.commit, .slice a4.G.A a4.G.n a4.G.c, .slice a4.P.A a4.P.n a4.P.c] 30)).alloc (.cells #[.int .i64 N1.id, .int .i64 N1.h.t, .int .i64 N1.h.v, .int .i64 N1.h.l.base, .int .i64 N1.h.l.bt, .slice a1.R.A a1.R.n a1.R.c, .string N1.h.s, .slice a1.V.A a1.V.n a1.V.c, .int .i64 N1.role, .int .i64 N1.lead, .int .i64 N1.timer, .int .i64 N1.commit, .slice a1.G.A a1.G.n a1.G.c, .slice a1.P.A a1.P.n a1.P.c, .int .i64 N2.id, .int .i64 N2.h.t, .int .i64 N2.h.v, .int .i64 N2.h.l.base, .int .i64 N2.h.l.bt, .slice a2.R.A a2.R.n a2.R.c, .string N2.h.s, .slice a2.V.A a2.V.n a2.V.c, .int .i64 N2.role, .int .i64 N2.lead, .int .i64 N2.timer, .int .i64 N2.commit, .slice a2.G.A a2.G.n a2.G.c, .slice a2.P.A a2.P.n a2.P.c, .int .i64 N3.id, .int .i64 N3.h.t, .int .i64 N3.h.v, .int .i64 N3.h.l.base, .int .i64 N3.h.l.bt, .slice a.R.A a.R.n a.R.c, .string N3.h.s, .slice a.V.A a.V.n a.V.c, .int .i64 N3.role, .int .i64 N3.lead, .int .i64 N3.timer, .int .i64 N3.commit, .slice a.G.A a.G.n a.G.c, .slice a.P.A a.P.n a.P.c, .int .i64 N4.id, .int .i64 N4.h.t, .int .i64 N4.h.v, .int .i64 N4.h.l.base, .int .i64 N4.h.l.bt, .slice a4.R.A a4.R.n a4.R.c, .string N4.h.s, .slice a4.V.A a4.V.n a4.V.c, .int .i64 N4.role, .int .i64 N4.lead, .int .i64 N4.timer, .int .i64 N4.commit, .slice a4.G.A a4.G.n a4.G.c, .slice a4.P.A a4.P.n a4.P.c] 30)) w.heap.size (some ⟨g7 + 1, 0, none⟩) 4 [(N1, a1), (N2, a2), (N3, a), (N4, a4)]) := by
    refine ⟨⟨rfl, fun _ => ⟨g7 + 1, 0, rfl, hRB.lt, .inr ⟨_, _, hRB⟩, fun j u hu => ?_⟩⟩, fun p hp => ?_⟩
    · rw [Nat.zero_add, hRB.cell j]
      simpa using hu
    · simp only [List.mem_cons, List.mem_nil_iff, or_false] at hp
      rcases hp with rfl | rfl | rfl | rfl
      · exact hok1.out.to pR
      · exact NdOk.to hok2.out (by go_grown)
      · exact hok3.out.to pR
      · exact NdOk.to hok4.out (by go_grown)
  obtain ⟨el, e_0, e_1, e_2, e_3, e_4, e_5, e_6, e_7, e_8, e_9, e_10, e_11, e_12, e_13⟩ := blk14c hX4.out
  obtain ⟨fl, f_0, f_1, f_2, f_3, f_4, f_5, f_6, f_7, f_8, f_9, f_10, f_11, f_12, f_13⟩ := blk14c hX5.out
  obtain ⟨gl, g_0, g_1, g_2, g_3, g_4, g_5, g_6, g_7, g_8, g_9, g_10, g_11, g_12, g_13⟩ := blk14c hX6.out
  obtain ⟨hl, h_0, h_1, h_2, h_3, h_4, h_5, h_6, h_7, h_8, h_9, h_10, h_11, h_12, h_13⟩ := blk14c hX7.out
  have hXs := hid_mk (hX.out.alloc (.cells #[.int .i64 N1.id, .int .i64 N1.h.t, .int .i64 N1.h.v, .int .i64 N1.h.l.base, .int .i64 N1.h.l.bt, .slice a1.R.A a1.R.n a1.R.c, .string N1.h.s, .slice a1.V.A a1.V.n a1.V.c, .int .i64 N1.role, .int .i64 N1.lead, .int .i64 N1.timer, .int .i64 N1.commit, .slice a1.G.A a1.G.n a1.G.c, .slice a1.P.A a1.P.n a1.P.c, .int .i64 N2.id, .int .i64 N2.h.t, .int .i64 N2.h.v, .int .i64 N2.h.l.base, .int .i64 N2.h.l.bt, .slice a2.R.A a2.R.n a2.R.c, .string N2.h.s, .slice a2.V.A a2.V.n a2.V.c, .int .i64 N2.role, .int .i64 N2.lead, .int .i64 N2.timer, .int .i64 N2.commit, .slice a2.G.A a2.G.n a2.G.c, .slice a2.P.A a2.P.n a2.P.c, .int .i64 N3.id, .int .i64 N3.h.t, .int .i64 N3.h.v, .int .i64 N3.h.l.base, .int .i64 N3.h.l.bt, .slice a.R.A a.R.n a.R.c, .string N3.h.s, .slice a.V.A a.V.n a.V.c, .int .i64 N3.role, .int .i64 N3.lead, .int .i64 N3.timer, .int .i64 N3.commit, .slice a.G.A a.G.n a.G.c, .slice a.P.A a.P.n a.P.c, .int .i64 N4.id, .int .i64 N4.h.t, .int .i64 N4.h.v, .int .i64 N4.h.l.base, .int .i64 N4.h.l.bt, .slice a4.R.A a4.R.n a4.R.c, .string N4.h.s, .slice a4.V.A a4.V.n a4.V.c, .int .i64 N4.role, .int .i64 N4.lead, .int .i64 N4.timer, .int .i64 N4.commit, .slice a4.G.A a4.G.n a4.G.c, .slice a4.P.A a4.P.n a4.P.c] 30))
  have hLs1 := hid_mk (hL1.out.to ((Below.refl _ _).alloc (Nat.le_refl _) (.cells #[.int .i64 N1.id, .int .i64 N1.h.t, .int .i64 N1.h.v, .int .i64 N1.h.l.base, .int .i64 N1.h.l.bt, .slice a1.R.A a1.R.n a1.R.c, .string N1.h.s, .slice a1.V.A a1.V.n a1.V.c, .int .i64 N1.role, .int .i64 N1.lead, .int .i64 N1.timer, .int .i64 N1.commit, .slice a1.G.A a1.G.n a1.G.c, .slice a1.P.A a1.P.n a1.P.c, .int .i64 N2.id, .int .i64 N2.h.t, .int .i64 N2.h.v, .int .i64 N2.h.l.base, .int .i64 N2.h.l.bt, .slice a2.R.A a2.R.n a2.R.c, .string N2.h.s, .slice a2.V.A a2.V.n a2.V.c, .int .i64 N2.role, .int .i64 N2.lead, .int .i64 N2.timer, .int .i64 N2.commit, .slice a2.G.A a2.G.n a2.G.c, .slice a2.P.A a2.P.n a2.P.c, .int .i64 N3.id, .int .i64 N3.h.t, .int .i64 N3.h.v, .int .i64 N3.h.l.base, .int .i64 N3.h.l.bt, .slice a.R.A a.R.n a.R.c, .string N3.h.s, .slice a.V.A a.V.n a.V.c, .int .i64 N3.role, .int .i64 N3.lead, .int .i64 N3.timer, .int .i64 N3.commit, .slice a.G.A a.G.n a.G.c, .slice a.P.A a.P.n a.P.c, .int .i64 N4.id, .int .i64 N4.h.t, .int .i64 N4.h.v, .int .i64 N4.h.l.base, .int .i64 N4.h.l.bt, .slice a4.R.A a4.R.n a4.R.c, .string N4.h.s, .slice a4.V.A a4.V.n a4.V.c, .int .i64 N4.role, .int .i64 N4.lead, .int .i64 N4.timer, .int .i64 N4.commit, .slice a4.G.A a4.G.n a4.G.c, .slice a4.P.A a4.P.n a4.P.c] 30)))
  have hLs2 := hid_mk (hL2.out.to ((Below.refl _ _).alloc (Nat.le_refl _) (.cells #[.int .i64 N1.id, .int .i64 N1.h.t, .int .i64 N1.h.v, .int .i64 N1.h.l.base, .int .i64 N1.h.l.bt, .slice a1.R.A a1.R.n a1.R.c, .string N1.h.s, .slice a1.V.A a1.V.n a1.V.c, .int .i64 N1.role, .int .i64 N1.lead, .int .i64 N1.timer, .int .i64 N1.commit, .slice a1.G.A a1.G.n a1.G.c, .slice a1.P.A a1.P.n a1.P.c, .int .i64 N2.id, .int .i64 N2.h.t, .int .i64 N2.h.v, .int .i64 N2.h.l.base, .int .i64 N2.h.l.bt, .slice a2.R.A a2.R.n a2.R.c, .string N2.h.s, .slice a2.V.A a2.V.n a2.V.c, .int .i64 N2.role, .int .i64 N2.lead, .int .i64 N2.timer, .int .i64 N2.commit, .slice a2.G.A a2.G.n a2.G.c, .slice a2.P.A a2.P.n a2.P.c, .int .i64 N3.id, .int .i64 N3.h.t, .int .i64 N3.h.v, .int .i64 N3.h.l.base, .int .i64 N3.h.l.bt, .slice a.R.A a.R.n a.R.c, .string N3.h.s, .slice a.V.A a.V.n a.V.c, .int .i64 N3.role, .int .i64 N3.lead, .int .i64 N3.timer, .int .i64 N3.commit, .slice a.G.A a.G.n a.G.c, .slice a.P.A a.P.n a.P.c, .int .i64 N4.id, .int .i64 N4.h.t, .int .i64 N4.h.v, .int .i64 N4.h.l.base, .int .i64 N4.h.l.bt, .slice a4.R.A a4.R.n a4.R.c, .string N4.h.s, .slice a4.V.A a4.V.n a4.V.c, .int .i64 N4.role, .int .i64 N4.lead, .int .i64 N4.timer, .int .i64 N4.commit, .slice a4.G.A a4.G.n a4.G.c, .slice a4.P.A a4.P.n a4.P.c] 30)))
  obtain ⟨wR, hwR⟩ : ∃ x, (w7.alloc (.cells #[.int .i64 N4.id, .int .i64 N4.h.t, .int .i64 N4.h.v, .int .i64 N4.h.l.base, .int .i64 N4.h.l.bt, .slice a4.R.A a4.R.n a4.R.c, .string N4.h.s, .slice a4.V.A a4.V.n a4.V.c, .int .i64 N4.role, .int .i64 N4.lead, .int .i64 N4.timer, .int .i64 N4.commit, .slice a4.G.A a4.G.n a4.G.c, .slice a4.P.A a4.P.n a4.P.c] 30)).alloc (.cells #[.int .i64 N1.id, .int .i64 N1.h.t, .int .i64 N1.h.v, .int .i64 N1.h.l.base, .int .i64 N1.h.l.bt, .slice a1.R.A a1.R.n a1.R.c, .string N1.h.s, .slice a1.V.A a1.V.n a1.V.c, .int .i64 N1.role, .int .i64 N1.lead, .int .i64 N1.timer, .int .i64 N1.commit, .slice a1.G.A a1.G.n a1.G.c, .slice a1.P.A a1.P.n a1.P.c, .int .i64 N2.id, .int .i64 N2.h.t, .int .i64 N2.h.v, .int .i64 N2.h.l.base, .int .i64 N2.h.l.bt, .slice a2.R.A a2.R.n a2.R.c, .string N2.h.s, .slice a2.V.A a2.V.n a2.V.c, .int .i64 N2.role, .int .i64 N2.lead, .int .i64 N2.timer, .int .i64 N2.commit, .slice a2.G.A a2.G.n a2.G.c, .slice a2.P.A a2.P.n a2.P.c, .int .i64 N3.id, .int .i64 N3.h.t, .int .i64 N3.h.v, .int .i64 N3.h.l.base, .int .i64 N3.h.l.bt, .slice a.R.A a.R.n a.R.c, .string N3.h.s, .slice a.V.A a.V.n a.V.c, .int .i64 N3.role, .int .i64 N3.lead, .int .i64 N3.timer, .int .i64 N3.commit, .slice a.G.A a.G.n a.G.c, .slice a.P.A a.P.n a.P.c, .int .i64 N4.id, .int .i64 N4.h.t, .int .i64 N4.h.v, .int .i64 N4.h.l.base, .int .i64 N4.h.l.bt, .slice a4.R.A a4.R.n a4.R.c, .string N4.h.s, .slice a4.V.A a4.V.n a4.V.c, .int .i64 N4.role, .int .i64 N4.lead, .int .i64 N4.timer, .int .i64 N4.commit, .slice a4.G.A a4.G.n a4.G.c, .slice a4.P.A a4.P.n a4.P.c] 30) = x := ⟨_, rfl⟩
  rw [hwR] at pR hRow hXs hLs1 hLs2
  replace hwR := hid_mk hwR
  have hst : Hid (∀ p ∈ [(N1, a1), (N2, a2), (N3, a), (N4, a4)], Stays N p.1) := by
    intro p hp
    simp only [List.mem_cons, List.mem_nil_iff, or_false] at hp
    rcases hp with rfl | rfl | rfl | rfl
    · exact s1.out
    · exact s2.out
    · exact s3.out
    · exact s4.out
  have hb1' : Hid (L1.length ≤ 7 ∧ L2.length ≤ 1) := ⟨by rw [← hLa.out]; exact stand_len hzr.out, by rw [← hLb.out]; exact vote_len N M⟩
  clear hX hB hL1 hL2 hRB hm2 hzr hz
  go_wp2
  try rw [hg7.out]
  rw [hwR.out]
  clear el e_0 e_1 e_2 e_3 e_4 e_5 e_6 e_7 e_8 e_9 e_10 e_11 e_12 e_13 fl f_0 f_1 f_2 f_3 f_4 f_5 f_6 f_7 f_8 f_9 f_10 f_11 f_12 f_13 gl g_0 g_1 g_2 g_3 g_4 g_5 g_6 g_7 g_8 g_9 g_10 g_11 g_12 g_13 hl h_0 h_1 h_2 h_3 h_4 h_5 h_6 h_7 h_8 h_9 h_10 h_11 h_12 h_13
  clear hX4 hX5 hX6 hX7
  go_loopw [64] (fun i wr => ∃ k : Nat, i = .int .i64 k ∧ k ≤ 4 ∧ Below w.heap.size w wr ∧ Hid (Blk wr w.heap.size 30 #[.int .i64 N.id, .int .i64 N.h.t, .int .i64 N.h.v, .int .i64 N.h.l.base, .int .i64 N.h.l.bt, .slice a.R.A a.R.n a.R.c, .string N.h.s, .slice a.V.A a.V.n a.V.c, .int .i64 N.role, .int .i64 N.lead, .int .i64 N.timer, .int .i64 N.commit, .slice a.G.A a.G.n a.G.c, .slice a.P.A a.P.n a.P.c]) ∧ Hid (Nds wr w.heap.size (some ⟨g7 + 1, 0, none⟩) 4 [(N1, a1), (N2, a2), (N3, a), (N4, a4)]) ∧ Hid (Mgs wr 0 A1 n1 (L1.map fun M => (M, nilMA))) ∧ Hid (Mgs wr 0 A2 n2 (L2.map fun M => (M, nilMA)))) (fun i _ => 4 - (intOf i).toNat)
  case atStart => exact ⟨0, rfl, by omega, pR, hXs, hRow, hLs1, hLs2⟩
  case round =>
    clear pR hXs hRow hLs1 hLs2
    obtain ⟨k, rfl, hk, hb, hX, hRow, hL1, hL2⟩ := hrel
    have zr := hb.size
    by_cases hlt : k < 4
    · as_aux_lemma =>
        obtain ⟨bo, oo, p, hbo, hbb, hmem, hok, c0, c1, c2, c3, c4, c5, c6, c7, c8, c9, c10, c11, c12, c13⟩ := hRow.out.at_ hlt
        injection hbo with hbo
        injection hbo with hbo1 hbo2
        subst hbo1
        subst hbo2
        obtain ⟨r1, r2, r3, r4, r5, r6⟩ := hst.out p hmem
        obtain ⟨⟨i', ⟨t', v', l', s', vs'⟩, ro', le', ti', co', go', ps'⟩, ⟨⟨xA, xn, xc⟩, xV, xG, xP⟩⟩ := p
        dsimp only at hok r1 r2 r3 r4 r5 r6 c0 c1 c2 c3 c4 c5 c6 c7 c8 c9 c10 c11 c12 c13
        rw [Nat.zero_add] at c0 c1 c2 c3 c4 c5 c6 c7 c8 c9 c10 c11 c12 c13
        have hlen : xn = a.R.n := by rw [← hN.recs.len]; exact (hok.recs.len).symm.trans r5
        subst r2
        subst r3
        subst hlen
        replace r1 := hid_mk r1
        replace r4 := hid_mk r4
        replace r6 := hid_mk r6
        replace hok := hid_mk hok
        clear r5 hmem
        have hE := hid_mk (Blk.new wr 30 #[.int .i64 N.id, .int .i64 t', .int .i64 v', .int .i64 l'.base, .int .i64 l'.bt, .slice xA a.R.n xc, .string s', .slice xV.A xV.n xV.c, .int .i64 ro', .int .i64 le', .int .i64 ti', .int .i64 N.commit, .slice xG.A xG.n xG.c, .slice xP.A xP.n xP.c])
        replace hX := hid_mk (hX.out.alloc (.cells #[.int .i64 N.id, .int .i64 t', .int .i64 v', .int .i64 l'.base, .int .i64 l'.bt, .slice xA a.R.n xc, .string s', .slice xV.A xV.n xV.c, .int .i64 ro', .int .i64 le', .int .i64 ti', .int .i64 N.commit, .slice xG.A xG.n xG.c, .slice xP.A xP.n xP.c] 30))
        go_wp2_with fail
        refine (ERight_any ⟨N.id, ⟨t', v', l', s', vs'⟩, ro', le', ti', N.commit, go', ps'⟩ ⟨⟨xA, a.R.n, xc⟩, xV, xG, xP⟩ _ (B := w.heap.size) (hok.out.to (by go_grown)) (ht.to (by go_grown))).mono ?_
        rw [r1.out]
        rintro e wy ⟨rfl, hb1⟩
        have qy := (after (w := w) hb1 (by go_grown)).1
        replace hX := hid_mk (hX.out.keep (after hb1 (by go_grown)).1)
        replace hE := hid_mk (hE.out.keep (after hb1 (by go_grown)).1)
        replace hRow := hid_mk (hRow.out.to (after hb1 (by go_grown)).1)
        replace hL1 := hid_mk (hL1.out.to (after hb1 (by go_grown)).1)
        replace hL2 := hid_mk (hL2.out.to (after hb1 (by go_grown)).1)
        clear hb1 c0 c1 c2 c3 c4 c5 c6 c7 c8 c9 c10 c11 c12 c13
        obtain ⟨xl, x0, x1, x2, x3, x4, x5, x6, x7, x8, x9, x10, x11, x12, x13⟩ := blk14c hX.out
        obtain ⟨yl, y0, y1, y2, y3, y4, y5, y6, y7, y8, y9, y10, y11, y12, y13⟩ := blk14c hE.out
        have e3 : ¬ t' < N.h.t := by have := r4.out; omega
        obtain ⟨vv, hvv⟩ : ∃ x, N.h.v = x := ⟨_, rfl⟩
        obtain ⟨tt, htt⟩ : ∃ x, N.h.t = x := ⟨_, rfl⟩
        have hr6 : Hid (t' = tt → vv ≠ 0 → v' = vv) := by rw [Hid, ← htt, ← hvv]; exact r6.out
        rw [hvv] at x2
        rw [htt] at x1 e3
        replace hvv := hid_mk hvv
        replace htt := hid_mk htt
        by_cases t1 : t' = tt
        · subst t1
          by_cases v1 : vv = 0
          · subst v1
            go_wp2
            go_roundw
            case rel => exact ⟨k + 1, by go_num, by omega, qy, hX, hRow, hL1, hL2⟩
            case measure => simp [intOf]; omega
          · have v2 := hr6.out rfl v1
            subst v2
            have v1' : (v' == 0) = false := by simpa using v1
            replace v1 := hid_mk v1
            go_wp2
            go_roundw
            case rel => exact ⟨k + 1, by go_num, by omega, qy, hX, hRow, hL1, hL2⟩
            case measure => simp [intOf]; omega
        · have t1' : (t' == tt) = false := by simpa using t1
          replace t1 := hid_mk t1
          go_wp2
          go_roundw
          case rel => exact ⟨k + 1, by go_num, by omega, qy, hX, hRow, hL1, hL2⟩
          case measure => simp [intOf]; omega
    · as_aux_lemma =>
        obtain ⟨b1', b2'⟩ := hb1'.out
        have hl1 := hL1.out.len
        have hl2 := hL2.out.len
        rw [List.length_map] at hl1 hl2
        have hn1 : n1 ≤ 7 := by omega
        have hn2 : n2 ≤ 1 := by omega
        clear b1' b2'
        replace hl1 := hid_mk hl1
        replace hl2 := hid_mk hl2
        obtain ⟨i0, hi0, hz0, hz1, hz2⟩ := info_parts msgInfo
        have hown0 := World.ownsRow_lit (base := wr.heap.size) (e := 32) (size := 11) wr #[] 0 (Nat.le_refl _) (by unfold maxLen; omega) (by simp)
        have hr1 := hid_mk (hL1.out.to ((Below.refl _ wr).alloc (Nat.le_refl _) (.cells #[] 32))).1
        have hX1 := hid_mk (hX.out.alloc (.cells #[] 32))
        go_wp2_with (first | (at_builtin; refine wpList_append_any _ rfl (.tmp 130) (.tmp 131) _ rfl wr.heap.size 32 i0 _ 11 128 Tryd.underlying37 hi0 hz0 hz1 hz2 rfl (by omega) _ 0 [] rfl hown0 0 A1 n1 c1 _ rfl hr1.out (msg_one _) (by simp only [maxLen]; omega) (by omega) (by simp only [World.size_alloc]; omega) ?_; intro v1 wa hown1 hga hat; simp only [Nat.zero_add, List.nil_append] at hown1; have rb : Below wr.heap.size wr wa := grown_below (by go_grown) hga (fun k hk => (World.ownsRow.lt hown0 k hk).1); have qa : Below w.heap.size w wa := hb.trans (rb.mono hb.size); have zna := rb.size; replace hX1 := hid_mk (Blk.grown hX1.out hga (own_ne hown0 hX1.out)); have hr2 : Reads wa 0 32 11 A2 n2 (mgsL (L2.map fun M => (M, nilMA))) := (hL2.out.to rb).1; clear hown0 hga hat) | (at_builtin; refine wpList_append_any _ rfl (.tmp 132) (.tmp 133) _ rfl wr.heap.size 32 i0 _ 11 128 Tryd.underlying37 hi0 hz0 hz1 hz2 rfl (by omega) _ n1 _ rfl hown1 0 A2 n2 c2 _ rfl hr2 (msg_one _) (by simp only [maxLen]; omega) (by omega) zna ?_; intro v2 wb hown2 hgb hat2; have rb2 : Below wr.heap.size wr wb := grown_below rb hgb (fun k hk => (World.ownsRow.lt hown1 k hk).1); have qb : Below w.heap.size w wb := hb.trans (rb2.mono hb.size); replace hX1 := hid_mk (Blk.grown hX1.out hgb (own_ne hown1 hX1.out)); clear hown1 hgb hat2; obtain ⟨A3, c3, rfl, ho1, ho2⟩ := own_slice hown2; clear hr2))
        have hLc : Hid (Mgs wb 0 A3 (n1 + n2) ((L1 ++ L2).map fun M => (M, nilMA))) := by
          refine ⟨?_, fun p hp => ?_⟩
          · rw [List.map_append, mgs_app]
            exact Reads.of_own hown2
          · rw [List.map_append] at hp
            rcases List.mem_append.1 hp with h | h
            · exact (hL1.out.2 p h).to rb2
            · exact (hL2.out.2 p h).to rb2
        clear hown2 hL1 hL2 hX hRow hr1 rb2 qa rb
        go_loopw [136] (fun i wr => ∃ k : Nat, i = .int .i64 k ∧ k ≤ n1 + n2 ∧ Below w.heap.size w wr ∧ Hid (Blk wr w.heap.size 30 #[.int .i64 N.id, .int .i64 N.h.t, .int .i64 N.h.v, .int .i64 N.h.l.base, .int .i64 N.h.l.bt, .slice a.R.A a.R.n a.R.c, .string N.h.s, .slice a.V.A a.V.n a.V.c, .int .i64 N.role, .int .i64 N.lead, .int .i64 N.timer, .int .i64 N.commit, .slice a.G.A a.G.n a.G.c, .slice a.P.A a.P.n a.P.c]) ∧ Hid (Mgs wr 0 A3 (n1 + n2) ((L1 ++ L2).map fun M => (M, nilMA)))) (fun i _ => n1 + n2 - (intOf i).toNat)
        case atStart => exact ⟨0, rfl, by omega, qb, hX1, hLc⟩
        case round =>
          clear hX1 hLc qb
          obtain ⟨k2, rfl, hk2, hb2, hX, hLc⟩ := hrel
          have zr2 := hb2.size
          by_cases hlt2 : k2 < n1 + n2
          · obtain ⟨bo, oo, p, rfl, hbb, hd, hok, c0, c1, c2, c3, c4, c5, c6, c7, c8, c9, c10⟩ := hLc.out.at_ hlt2
            have hmem : p ∈ (L1 ++ L2).map fun M => (M, nilMA) := List.mem_of_mem_drop (by rw [hd]; exact .head _)
            obtain ⟨Mx, hMx, rfl⟩ := List.mem_map.1 hmem
            obtain ⟨m1, m2⟩ := hmay.out Mx hMx
            clear hd hmem hMx
            dsimp only at hok c0 c1 c2 c3 c4 c5 c6 c7 c8 c9 c10
            obtain ⟨kd, fr', mto, tm, ok2, ix, ltm, rs2, cm, sn, vs2⟩ := Mx
            dsimp only at hok m1 m2 c0 c1 c2 c3 c4 c5 c6 c7 c8 c9 c10
            subst m2
            replace m1 := hid_mk m1
            have hE := hid_mk (Blk.new wr 32 #[.int .i64 kd, .int .i64 N.id, .int .i64 mto, .int .i64 tm, .bool ok2, .int .i64 ix, .int .i64 ltm, .slice nilMA.R.A nilMA.R.n nilMA.R.c, .int .i64 cm, .string sn, .slice nilMA.V.A nilMA.V.n nilMA.V.c])
            replace hX := hid_mk (hX.out.alloc (.cells #[.int .i64 kd, .int .i64 N.id, .int .i64 mto, .int .i64 tm, .bool ok2, .int .i64 ix, .int .i64 ltm, .slice nilMA.R.A nilMA.R.n nilMA.R.c, .int .i64 cm, .string sn, .slice nilMA.V.A nilMA.V.n nilMA.V.c] 32))
            replace hok := hid_mk hok
            go_wp2_with fail
            refine (EMay_any ⟨kd, N.id, mto, tm, ok2, ix, ltm, rs2, cm, sn, vs2⟩ nilMA _ (B := 0) (hok.out.to (by go_grown))).mono ?_
            rw [m1.out]
            rintro e wy ⟨rfl, hb1⟩
            have qy := (after (w := w) hb1 (by go_grown)).1
            replace hX := hid_mk (hX.out.keep (after hb1 (by go_grown)).1)
            replace hE := hid_mk (hE.out.keep (after hb1 (by go_grown)).1)
            replace hLc := hid_mk (hLc.out.to (after hb1 (by go_grown)).1)
            clear hb1 c0 c1 c2 c3 c4 c5 c6 c7 c8 c9 c10
            obtain ⟨xl, x0, x1, x2, x3, x4, x5, x6, x7, x8, x9, x10, x11, x12, x13⟩ := blk14c hX.out
            obtain ⟨yl, y0, y1, y2, y3, y4, y5, y6, y7, y8, y9, y10⟩ := blk11v hE.out
            go_wp2
            go_roundw
            case rel => exact ⟨k2 + 1, by go_num, by omega, qy, hX, hLc⟩
            case measure => simp [intOf]; omega
          · go_wp2
            refine ends_ret hQ (results_tmp rfl _ _ _) rfl ?_
            exact ⟨rfl, hb2⟩
theorem LawKeeps_walk {w : World} (ht : Tab w) (mm : Int) (hm : w.cell? ⟨1, 0, none⟩ = some (.int .i64 mm)) (N : Nd) (a : NdA) (hN : NdOk w w.heap.size N a) (M : Ms) (b : MsA) (hM : MsOk w w.heap.size M b) (term : Int) (_ : -9223372036854775808 ≤ term) (_ : term ≤ 9223372036854775807) (d : Int) (_ : -9223372036854775808 ≤ d) (_ : d ≤ 9223372036854775807) :
    Calls Tryd.prog 5 #[nodeV N a, msgV M b, .int .i64 term, .int .i64 d] w fun e w' => e = .returned (.bool true) ∧ Below w.heap.size w w' := LawKeeps_any N a M b term d w hN hM ht mm hm
end Go.Proofs.YtnaindoeihnmpaaDoor
