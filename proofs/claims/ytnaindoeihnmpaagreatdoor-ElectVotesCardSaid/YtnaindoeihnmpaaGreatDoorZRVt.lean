/-
  WHAT IS PROVED HERE: what the reference's Vote hands back of a node that may be. Condition: the slices are of at most 2^47 elements.
-/
import Derived.Test.YtnaindoeihnmpaaGreatDoorZGRlt
import Derived.Test.YtnaindoeihnmpaaGreatDoorZVot
import Derived.Test.YtnaindoeihnmpaaGreatDoorZRMay6
import Derived.Test.YtnaindoeihnmpaaGreatDoorZKr
import Derived.Deep.DeepCutAuto
namespace Go.Proofs.YtnaindoeihnmpaaGreatDoor
open Go.RowKit

set_option maxRecDepth 100000 in
set_option maxHeartbeats 12800000 in
theorem RVote_any (N : Nd) (a : NdA) (M : Ms) (b : MsA) (d : Int) (w : World) {B : Nat} (hN : NdOk w B N a) (hMs : MsOk w B M b) (hzr : rightN N = true) :
    Calls Tryz.prog 16 #[nodeV N a, msgV M b, .int .i64 d] w fun e w' => RetNM (voteN N M d) a (voteL N M) e w' ∧ Below w.heap.size w w' := by
  obtain ⟨zm, hzm⟩ : ∃ z, mayM M = z := ⟨_, rfl⟩
  obtain ⟨zn, hzn⟩ : ∃ z, newerJ N.h.l M.index M.lterm = z := ⟨_, rfl⟩
  have hj := right_bounds (right_n hzr).1
  obtain ⟨N', hN'⟩ : ∃ z, voteN N M d = z := ⟨_, rfl⟩
  obtain ⟨L, hL⟩ : ∃ z, voteL N M = z := ⟨_, rfl⟩
  have hNo : Hid ((zm && (M.kind == 1 && (M.to == N.id && decide (M.term ≤ N.h.t)))) = false → N' = N ∧ L = []) := fun e => by
    have hp : voteP N M = false := by unfold voteP; rw [hzr, hzm]; exact e
    rw [← hN', ← hL]
    unfold voteN voteL
    simp [hp]
  have hYes : Hid ((zm && (M.kind == 1 && (M.to == N.id && decide (M.term ≤ N.h.t)))) = true → ∀ g, (M.term == N.h.t && ((N.h.v == 0 || N.h.v == M.fr) && zn)) = g → N' = (if g then ⟨N.id, ⟨N.h.t, M.fr, N.h.l, N.h.s, N.h.vs⟩, N.role, N.lead, min (max d 0) 1048576, N.commit, N.got, N.ps⟩ else N) ∧ L = [⟨2, N.id, M.fr, N.h.t, g, 0, 0, [], 0, ⟨#[]⟩, []⟩]) := fun e g hg => by
    have hp : voteP N M = true := by unfold voteP; rw [hzr, hzm]; exact e
    have hgg : voteG N M = g := by unfold voteG; rw [hzn]; exact hg
    rw [← hN', ← hL]
    unfold voteN voteL
    simp [hp, hgg]
  rw [hN', hL]
  replace hzm := hid_mk hzm
  replace hzn := hid_mk hzn
  clear hN' hL hzr
  have hEM := NMay_any M b
  have hN0 := hN
  have hM0 := hMs
  obtain ⟨hr, _, hrb, _, _, _, _, _, _, _, _, _, _⟩ := hN
  clear hMs
  obtain ⟨id, ⟨t, v, ⟨base, bt, rs⟩, s, vs⟩, role, lead, timer, commit, got, ps⟩ := N
  obtain ⟨⟨RA, n, Rc⟩, ⟨VA, m, Vc⟩, ⟨GA, gn, Gc⟩, ⟨PA, pn, Pc⟩⟩ := a
  obtain ⟨kind, fr, mto, mt, ok, index, lterm, mrs, mcommit, ms, mvs⟩ := M
  obtain ⟨⟨QA, qn, Qc⟩, ⟨UA, un, Uc⟩⟩ := b
  unfold nodeV
  unfold msgV at hEM ⊢
  dsimp only at hr hrb hNo hYes hEM hzn hj ⊢
  obtain ⟨hj0, hj1, _⟩ := hj
  have hnn : n ≤ 140737488355328 := by omega
  have hX := hid_mk (((Blk.new w 30 #[.int .i64 id, .int .i64 t, .int .i64 v, .int .i64 base, .int .i64 bt, .slice RA n Rc, .string s, .slice VA m Vc, .int .i64 role, .int .i64 lead, .int .i64 timer, .int .i64 commit, .slice GA gn Gc, .slice PA pn Pc]).alloc (.cells #[.int .i64 kind, .int .i64 fr, .int .i64 mto, .int .i64 mt, .bool ok, .int .i64 index, .int .i64 lterm, .slice QA qn Qc, .int .i64 mcommit, .string ms, .slice UA un Uc] 33)).alloc (.cells #[.int .i64 0, .int .i64 0, .int .i64 0, .int .i64 0, .int .i64 0, .slice none 0 0, .string ⟨#[]⟩, .slice none 0 0, .int .i64 0, .int .i64 0, .int .i64 0, .int .i64 0, .slice none 0 0, .slice none 0 0] 30))
  have hM : Hid (Blk (((w.alloc (.cells #[.int .i64 id, .int .i64 t, .int .i64 v, .int .i64 base, .int .i64 bt, .slice RA n Rc, .string s, .slice VA m Vc, .int .i64 role, .int .i64 lead, .int .i64 timer, .int .i64 commit, .slice GA gn Gc, .slice PA pn Pc] 30)).alloc (.cells #[.int .i64 kind, .int .i64 fr, .int .i64 mto, .int .i64 mt, .bool ok, .int .i64 index, .int .i64 lterm, .slice QA qn Qc, .int .i64 mcommit, .string ms, .slice UA un Uc] 33)).alloc (.cells #[.int .i64 0, .int .i64 0, .int .i64 0, .int .i64 0, .int .i64 0, .slice none 0 0, .string ⟨#[]⟩, .slice none 0 0, .int .i64 0, .int .i64 0, .int .i64 0, .int .i64 0, .slice none 0 0, .slice none 0 0] 30)) (w.heap.size + 1) 33 #[.int .i64 kind, .int .i64 fr, .int .i64 mto, .int .i64 mt, .bool ok, .int .i64 index, .int .i64 lterm, .slice QA qn Qc, .int .i64 mcommit, .string ms, .slice UA un Uc]) := (Blk.new_ (by simp)).alloc _
  have hY : Hid (Blk (((w.alloc (.cells #[.int .i64 id, .int .i64 t, .int .i64 v, .int .i64 base, .int .i64 bt, .slice RA n Rc, .string s, .slice VA m Vc, .int .i64 role, .int .i64 lead, .int .i64 timer, .int .i64 commit, .slice GA gn Gc, .slice PA pn Pc] 30)).alloc (.cells #[.int .i64 kind, .int .i64 fr, .int .i64 mto, .int .i64 mt, .bool ok, .int .i64 index, .int .i64 lterm, .slice QA qn Qc, .int .i64 mcommit, .string ms, .slice UA un Uc] 33)).alloc (.cells #[.int .i64 0, .int .i64 0, .int .i64 0, .int .i64 0, .int .i64 0, .slice none 0 0, .string ⟨#[]⟩, .slice none 0 0, .int .i64 0, .int .i64 0, .int .i64 0, .int .i64 0, .slice none 0 0, .slice none 0 0] 30)) (w.heap.size + 1 + 1) 30 #[.int .i64 0, .int .i64 0, .int .i64 0, .int .i64 0, .int .i64 0, .slice none 0 0, .string ⟨#[]⟩, .slice none 0 0, .int .i64 0, .int .i64 0, .int .i64 0, .int .i64 0, .slice none 0 0, .slice none 0 0]) := Blk.new_ (by simp)
  refine calls_of_wpQ Tryz.func16 rfl ?_
  intro Q hQ
  simp only [Tryz.ntmps16, List.size_toArray, List.length_cons, List.length_nil, Nat.reduceAdd, Nat.reduceSub, Array.replicate_succ, Array.replicate_zero, List.push_toArray, List.append_toArray, List.nil_append, List.cons_append]
  go_wp2_with fail
  refine (hEM _ (B := B) (hM0.to (by go_grown))).mono ?_
  rw [hzm.out]
  rintro e w2 ⟨rfl, hb1⟩
  have q2 := (after (w := w) hb1 (by go_grown)).1
  have z2 := q2.size
  replace hX := hid_mk (hX.out.keep (after hb1 (by go_grown)).1)
  replace hY := hid_mk (hY.out.keep (after hb1 (by go_grown)).1)
  replace hM := hid_mk (hM.out.keep (after hb1 (by go_grown)).1)
  clear hb1
  obtain ⟨xl, x0, x1, x2, x3, x4, x5, x6, x7, x8, x9, x10, x11, x12, x13, xf0, xf1, xf2, xf3, xf4, xf5, xf6, xf7, xf8, xf9, xf10, xf11, xf12, xf13⟩ := blk14f hX.out
  obtain ⟨yl, y0, y1, y2, y3, y4, y5, y6, y7, y8, y9, y10, y11, y12, y13, yf0, yf1, yf2, yf3, yf4, yf5, yf6, yf7, yf8, yf9, yf10, yf11, yf12, yf13⟩ := blk14f hY.out
  obtain ⟨ml, m0, m1, m2, m3, m4, m5, m6, m7, m8, m9, m10⟩ := blk11v hM.out
  cases zm
  case false =>
    have hno := hid_mk (hNo.out (rfl))
    go_wp2
    clear xl x0 x1 x2 x3 x4 x5 x6 x7 x8 x9 x10 x11 x12 x13 xf0 xf1 xf2 xf3 xf4 xf5 xf6 xf7 xf8 xf9 xf10 xf11 xf12 xf13 yl y0 y1 y2 y3 y4 y5 y6 y7 y8 y9 y10 y11 y12 y13 yf0 yf1 yf2 yf3 yf4 yf5 yf6 yf7 yf8 yf9 yf10 yf11 yf12 yf13 ml m0 m1 m2 m3 m4 m5 m6 m7 m8 m9 m10
    have kfin := set14_blk hY.out (.int .i64 id) (.int .i64 t) (.int .i64 v) (.int .i64 base) (.int .i64 bt) (.slice RA n Rc) (.string s) (.slice VA m Vc) (.int .i64 role) (.int .i64 lead) (.int .i64 timer) (.int .i64 commit) (.slice GA gn Gc) (.slice PA pn Pc)
    unfold set14 at kfin
    obtain ⟨_, r0, r1, r2, r3, r4, r5, r6, r7, r8, r9, r10, r11, r12, r13⟩ := blk14c kfin
    refine ends_ret hQ (v := .tuple #[.agg #[.int .i64 id, .int .i64 t, .int .i64 v, .int .i64 base, .int .i64 bt, .slice RA n Rc, .string s, .slice VA m Vc, .int .i64 role, .int .i64 lead, .int .i64 timer, .int .i64 commit, .slice GA gn Gc, .slice PA pn Pc], .slice none 0 0]) (by simp [results, Tryz.results16, go_sem, r0, r1, r2, r3, r4, r5, r6, r7, r8, r9, r10, r11, r12, r13]) rfl ?_
    exact ⟨⟨none, 0, 0, by rw [hno.out.1]; rfl, by rw [hno.out.2]; exact mgs_nil, Nat.le_refl _⟩, set14_below (.int .i64 id) (.int .i64 t) (.int .i64 v) (.int .i64 base) (.int .i64 bt) (.slice RA n Rc) (.string s) (.slice VA m Vc) (.int .i64 role) (.int .i64 lead) (.int .i64 timer) (.int .i64 commit) (.slice GA gn Gc) (.slice PA pn Pc) q2 (by omega)⟩
  by_cases k1 : kind = 1
  case neg =>
    have k1' : (kind != 1) = true := by simpa using k1
    have k1n := hid_mk (show (kind == 1) = false by simpa using k1)
    replace k1 := hid_mk k1
    have hno := hid_mk (hNo.out (by rw [k1n.out]; rfl))
    go_wp2
    clear xl x0 x1 x2 x3 x4 x5 x6 x7 x8 x9 x10 x11 x12 x13 xf0 xf1 xf2 xf3 xf4 xf5 xf6 xf7 xf8 xf9 xf10 xf11 xf12 xf13 yl y0 y1 y2 y3 y4 y5 y6 y7 y8 y9 y10 y11 y12 y13 yf0 yf1 yf2 yf3 yf4 yf5 yf6 yf7 yf8 yf9 yf10 yf11 yf12 yf13 ml m0 m1 m2 m3 m4 m5 m6 m7 m8 m9 m10
    have kfin := set14_blk hY.out (.int .i64 id) (.int .i64 t) (.int .i64 v) (.int .i64 base) (.int .i64 bt) (.slice RA n Rc) (.string s) (.slice VA m Vc) (.int .i64 role) (.int .i64 lead) (.int .i64 timer) (.int .i64 commit) (.slice GA gn Gc) (.slice PA pn Pc)
    unfold set14 at kfin
    obtain ⟨_, r0, r1, r2, r3, r4, r5, r6, r7, r8, r9, r10, r11, r12, r13⟩ := blk14c kfin
    refine ends_ret hQ (v := .tuple #[.agg #[.int .i64 id, .int .i64 t, .int .i64 v, .int .i64 base, .int .i64 bt, .slice RA n Rc, .string s, .slice VA m Vc, .int .i64 role, .int .i64 lead, .int .i64 timer, .int .i64 commit, .slice GA gn Gc, .slice PA pn Pc], .slice none 0 0]) (by simp [results, Tryz.results16, go_sem, r0, r1, r2, r3, r4, r5, r6, r7, r8, r9, r10, r11, r12, r13]) rfl ?_
    exact ⟨⟨none, 0, 0, by rw [hno.out.1]; rfl, by rw [hno.out.2]; exact mgs_nil, Nat.le_refl _⟩, set14_below (.int .i64 id) (.int .i64 t) (.int .i64 v) (.int .i64 base) (.int .i64 bt) (.slice RA n Rc) (.string s) (.slice VA m Vc) (.int .i64 role) (.int .i64 lead) (.int .i64 timer) (.int .i64 commit) (.slice GA gn Gc) (.slice PA pn Pc) q2 (by omega)⟩
  have k1' : (kind == 1) = true := by simpa using k1
  replace k1 := hid_mk k1
  by_cases k2 : mto = id
  case neg =>
    have k2' : (mto != id) = true := by simpa using k2
    have k2n := hid_mk (show (mto == id) = false by simpa using k2)
    replace k2 := hid_mk k2
    have hno := hid_mk (hNo.out (by rw [k2n.out, k1.out]; rfl))
    go_wp2
    clear xl x0 x1 x2 x3 x4 x5 x6 x7 x8 x9 x10 x11 x12 x13 xf0 xf1 xf2 xf3 xf4 xf5 xf6 xf7 xf8 xf9 xf10 xf11 xf12 xf13 yl y0 y1 y2 y3 y4 y5 y6 y7 y8 y9 y10 y11 y12 y13 yf0 yf1 yf2 yf3 yf4 yf5 yf6 yf7 yf8 yf9 yf10 yf11 yf12 yf13 ml m0 m1 m2 m3 m4 m5 m6 m7 m8 m9 m10
    have kfin := set14_blk hY.out (.int .i64 id) (.int .i64 t) (.int .i64 v) (.int .i64 base) (.int .i64 bt) (.slice RA n Rc) (.string s) (.slice VA m Vc) (.int .i64 role) (.int .i64 lead) (.int .i64 timer) (.int .i64 commit) (.slice GA gn Gc) (.slice PA pn Pc)
    unfold set14 at kfin
    obtain ⟨_, r0, r1, r2, r3, r4, r5, r6, r7, r8, r9, r10, r11, r12, r13⟩ := blk14c kfin
    refine ends_ret hQ (v := .tuple #[.agg #[.int .i64 id, .int .i64 t, .int .i64 v, .int .i64 base, .int .i64 bt, .slice RA n Rc, .string s, .slice VA m Vc, .int .i64 role, .int .i64 lead, .int .i64 timer, .int .i64 commit, .slice GA gn Gc, .slice PA pn Pc], .slice none 0 0]) (by simp [results, Tryz.results16, go_sem, r0, r1, r2, r3, r4, r5, r6, r7, r8, r9, r10, r11, r12, r13]) rfl ?_
    exact ⟨⟨none, 0, 0, by rw [hno.out.1]; rfl, by rw [hno.out.2]; exact mgs_nil, Nat.le_refl _⟩, set14_below (.int .i64 id) (.int .i64 t) (.int .i64 v) (.int .i64 base) (.int .i64 bt) (.slice RA n Rc) (.string s) (.slice VA m Vc) (.int .i64 role) (.int .i64 lead) (.int .i64 timer) (.int .i64 commit) (.slice GA gn Gc) (.slice PA pn Pc) q2 (by omega)⟩
  have k2' : (mto == id) = true := by simpa using k2
  replace k2 := hid_mk k2
  by_cases k3 : mt ≤ t
  case neg =>
    have k3n := hid_mk (show decide (mt ≤ t) = false by simpa using k3)
    have k3' : t < mt := by omega
    replace k3 := hid_mk k3
    have hno := hid_mk (hNo.out (by rw [k3n.out, k2.out, k1.out]; simp))
    go_wp2
    clear xl x0 x1 x2 x3 x4 x5 x6 x7 x8 x9 x10 x11 x12 x13 xf0 xf1 xf2 xf3 xf4 xf5 xf6 xf7 xf8 xf9 xf10 xf11 xf12 xf13 yl y0 y1 y2 y3 y4 y5 y6 y7 y8 y9 y10 y11 y12 y13 yf0 yf1 yf2 yf3 yf4 yf5 yf6 yf7 yf8 yf9 yf10 yf11 yf12 yf13 ml m0 m1 m2 m3 m4 m5 m6 m7 m8 m9 m10
    have kfin := set14_blk hY.out (.int .i64 id) (.int .i64 t) (.int .i64 v) (.int .i64 base) (.int .i64 bt) (.slice RA n Rc) (.string s) (.slice VA m Vc) (.int .i64 role) (.int .i64 lead) (.int .i64 timer) (.int .i64 commit) (.slice GA gn Gc) (.slice PA pn Pc)
    unfold set14 at kfin
    obtain ⟨_, r0, r1, r2, r3, r4, r5, r6, r7, r8, r9, r10, r11, r12, r13⟩ := blk14c kfin
    refine ends_ret hQ (v := .tuple #[.agg #[.int .i64 id, .int .i64 t, .int .i64 v, .int .i64 base, .int .i64 bt, .slice RA n Rc, .string s, .slice VA m Vc, .int .i64 role, .int .i64 lead, .int .i64 timer, .int .i64 commit, .slice GA gn Gc, .slice PA pn Pc], .slice none 0 0]) (by simp [results, Tryz.results16, go_sem, r0, r1, r2, r3, r4, r5, r6, r7, r8, r9, r10, r11, r12, r13]) rfl ?_
    exact ⟨⟨none, 0, 0, by rw [hno.out.1]; rfl, by rw [hno.out.2]; exact mgs_nil, Nat.le_refl _⟩, set14_below (.int .i64 id) (.int .i64 t) (.int .i64 v) (.int .i64 base) (.int .i64 bt) (.slice RA n Rc) (.string s) (.slice VA m Vc) (.int .i64 role) (.int .i64 lead) (.int .i64 timer) (.int .i64 commit) (.slice GA gn Gc) (.slice PA pn Pc) q2 (by omega)⟩
  have k3n := hid_mk (show decide (mt ≤ t) = true by simpa using k3)
  have hy0 := hid_mk (hYes.out (by rw [k1.out, k2.out, k3n.out]; simp))
  clear hYes hNo
  obtain ⟨gR, hgR⟩ : ∃ g, w2.heap.size = g := ⟨_, rfl⟩
  have gx : w.heap.size < gR := by rw [← hgR]; exact hX.out.lt
  have gy : w.heap.size + 1 + 1 < gR := by rw [← hgR]; exact hY.out.lt
  have hR : Hid (Blk (w2.alloc (.cells #[.int .i64 2, .int .i64 id, .int .i64 fr, .int .i64 t, .bool false, .int .i64 0, .int .i64 0, .slice none 0 0, .int .i64 0, .string ⟨#[]⟩, .slice none 0 0] 33)) gR 33 #[.int .i64 2, .int .i64 id, .int .i64 fr, .int .i64 t, .bool false, .int .i64 0, .int .i64 0, .slice none 0 0, .int .i64 0, .string ⟨#[]⟩, .slice none 0 0]) := by rw [← hgR]; exact Blk.new _ _ _
  replace hX := hid_mk (hX.out.alloc (.cells #[.int .i64 2, .int .i64 id, .int .i64 fr, .int .i64 t, .bool false, .int .i64 0, .int .i64 0, .slice none 0 0, .int .i64 0, .string ⟨#[]⟩, .slice none 0 0] 33))
  replace hY := hid_mk (hY.out.alloc (.cells #[.int .i64 2, .int .i64 id, .int .i64 fr, .int .i64 t, .bool false, .int .i64 0, .int .i64 0, .slice none 0 0, .int .i64 0, .string ⟨#[]⟩, .slice none 0 0] 33))
  replace hM := hid_mk (hM.out.alloc (.cells #[.int .i64 2, .int .i64 id, .int .i64 fr, .int .i64 t, .bool false, .int .i64 0, .int .i64 0, .slice none 0 0, .int .i64 0, .string ⟨#[]⟩, .slice none 0 0] 33))
  have qR : Below w.heap.size w (w2.alloc (.cells #[.int .i64 2, .int .i64 id, .int .i64 fr, .int .i64 t, .bool false, .int .i64 0, .int .i64 0, .slice none 0 0, .int .i64 0, .string ⟨#[]⟩, .slice none 0 0] 33)) := by go_grown
  obtain ⟨wR, hwR⟩ : ∃ x, w2.alloc (.cells #[.int .i64 2, .int .i64 id, .int .i64 fr, .int .i64 t, .bool false, .int .i64 0, .int .i64 0, .slice none 0 0, .int .i64 0, .string ⟨#[]⟩, .slice none 0 0] 33) = x := ⟨_, rfl⟩
  rw [hwR] at hR hX hY hM qR
  replace hgR := hid_mk hgR
  replace hwR := hid_mk hwR
  go_upto_region 4 with fail
  rw [hgR.out, hwR.out]
  clear xl x0 x1 x2 x3 x4 x5 x6 x7 x8 x9 x10 x11 x12 x13 xf0 xf1 xf2 xf3 xf4 xf5 xf6 xf7 xf8 xf9 xf10 xf11 xf12 xf13 yl y0 y1 y2 y3 y4 y5 y6 y7 y8 y9 y10 y11 y12 y13 yf0 yf1 yf2 yf3 yf4 yf5 yf6 yf7 yf8 yf9 yf10 yf11 yf12 yf13 ml m0 m1 m2 m3 m4 m5 m6 m7 m8 m9 m10
  clear q2 z2
  have zR := qR.size
  obtain ⟨xl, x0, x1, x2, x3, x4, x5, x6, x7, x8, x9, x10, x11, x12, x13, xf0, xf1, xf2, xf3, xf4, xf5, xf6, xf7, xf8, xf9, xf10, xf11, xf12, xf13⟩ := blk14f hX.out
  obtain ⟨yl, y0, y1, y2, y3, y4, y5, y6, y7, y8, y9, y10, y11, y12, y13, yf0, yf1, yf2, yf3, yf4, yf5, yf6, yf7, yf8, yf9, yf10, yf11, yf12, yf13⟩ := blk14f hY.out
  obtain ⟨ml, m0, m1, m2, m3, m4, m5, m6, m7, m8, m9, m10⟩ := blk11v hM.out
  go_cut [70] from 41 (fun p70 wx => ∃ g : Bool, p70 = .bool g ∧ Below w.heap.size w wx ∧ Hid (Blk wx w.heap.size 30 #[.int .i64 id, .int .i64 t, .int .i64 v, .int .i64 base, .int .i64 bt, .slice RA n Rc, .string s, .slice VA m Vc, .int .i64 role, .int .i64 lead, .int .i64 timer, .int .i64 commit, .slice GA gn Gc, .slice PA pn Pc]) ∧ Hid (Blk wx (w.heap.size + 1) 33 #[.int .i64 kind, .int .i64 fr, .int .i64 mto, .int .i64 mt, .bool ok, .int .i64 index, .int .i64 lterm, .slice QA qn Qc, .int .i64 mcommit, .string ms, .slice UA un Uc]) ∧ Hid (Blk wx (w.heap.size + 1 + 1) 30 #[.int .i64 0, .int .i64 0, .int .i64 0, .int .i64 0, .int .i64 0, .slice none 0 0, .string ⟨#[]⟩, .slice none 0 0, .int .i64 0, .int .i64 0, .int .i64 0, .int .i64 0, .slice none 0 0, .slice none 0 0]) ∧ Hid (Blk wx gR 33 #[.int .i64 2, .int .i64 id, .int .i64 fr, .int .i64 t, .bool false, .int .i64 0, .int .i64 0, .slice none 0 0, .int .i64 0, .string ⟨#[]⟩, .slice none 0 0]) ∧ Hid ((mt == t && ((v == 0 || v == fr) && zn)) = g))
  case first =>
    by_cases k4 : mt = t
    case neg =>
      have k4' : (mt == t) = false := by simpa using k4
      have k4n := hid_mk k4'
      replace k4 := hid_mk k4
      go_wp2
      go_meet
      exact ⟨false, rfl, qR, hX, hM, hY, hR, hid_mk (by rw [k4n.out]; rfl)⟩
    have k4' : (mt == t) = true := by simpa using k4
    have k4n := hid_mk k4'
    replace k4 := hid_mk k4
    by_cases k5 : v = 0
    case pos =>
      have k5' : (v == 0) = true := by simpa using k5
      have k5n := hid_mk k5'
      replace k5 := hid_mk k5
      go_wp2_with fail
      clear xl x0 x1 x2 x3 x4 x5 x6 x7 x8 x9 x10 x11 x12 x13 xf0 xf1 xf2 xf3 xf4 xf5 xf6 xf7 xf8 xf9 xf10 xf11 xf12 xf13 yl y0 y1 y2 y3 y4 y5 y6 y7 y8 y9 y10 y11 y12 y13 yf0 yf1 yf2 yf3 yf4 yf5 yf6 yf7 yf8 yf9 yf10 yf11 yf12 yf13 ml m0 m1 m2 m3 m4 m5 m6 m7 m8 m9 m10
      refine (refNewer_any ⟨base, bt, rs⟩ index lterm RA n Rc _ (B := B) hnn (hr.to (by go_grown)) hj0 hj1).mono ?_
      rw [hzn.out]
      rintro e w3 ⟨rfl, hb1⟩
      have q3 := (after (w := w) hb1 (by go_grown)).1
      replace hX := hid_mk (hX.out.keep (after hb1 (by go_grown)).1)
      replace hY := hid_mk (hY.out.keep (after hb1 (by go_grown)).1)
      replace hM := hid_mk (hM.out.keep (after hb1 (by go_grown)).1)
      replace hR := hid_mk (hR.out.keep (after hb1 (by go_grown)).1)
      clear hb1
      go_wp2
      go_meet
      exact ⟨zn, rfl, q3, hX, hM, hY, hR, hid_mk (by rw [k4n.out, k5n.out]; simp)⟩
    have k5' : (v == 0) = false := by simpa using k5
    have k5n := hid_mk k5'
    replace k5 := hid_mk k5
    by_cases k6 : v = fr
    case neg =>
      have k6' : (v == fr) = false := by simpa using k6
      have k6n := hid_mk k6'
      replace k6 := hid_mk k6
      go_wp2
      go_meet
      exact ⟨false, rfl, qR, hX, hM, hY, hR, hid_mk (by rw [k4n.out, k5n.out, k6n.out]; rfl)⟩
    have k6' : (v == fr) = true := by simpa using k6
    have k6n := hid_mk k6'
    replace k6 := hid_mk k6
    go_wp2_with fail
    clear xl x0 x1 x2 x3 x4 x5 x6 x7 x8 x9 x10 x11 x12 x13 xf0 xf1 xf2 xf3 xf4 xf5 xf6 xf7 xf8 xf9 xf10 xf11 xf12 xf13 yl y0 y1 y2 y3 y4 y5 y6 y7 y8 y9 y10 y11 y12 y13 yf0 yf1 yf2 yf3 yf4 yf5 yf6 yf7 yf8 yf9 yf10 yf11 yf12 yf13 ml m0 m1 m2 m3 m4 m5 m6 m7 m8 m9 m10
    refine (refNewer_any ⟨base, bt, rs⟩ index lterm RA n Rc _ (B := B) hnn (hr.to (by go_grown)) hj0 hj1).mono ?_
    rw [hzn.out]
    rintro e w3 ⟨rfl, hb1⟩
    have q3 := (after (w := w) hb1 (by go_grown)).1
    replace hX := hid_mk (hX.out.keep (after hb1 (by go_grown)).1)
    replace hY := hid_mk (hY.out.keep (after hb1 (by go_grown)).1)
    replace hM := hid_mk (hM.out.keep (after hb1 (by go_grown)).1)
    replace hR := hid_mk (hR.out.keep (after hb1 (by go_grown)).1)
    clear hb1
    go_wp2
    go_meet
    exact ⟨zn, rfl, q3, hX, hM, hY, hR, hid_mk (by rw [k4n.out, k5n.out, k6n.out]; simp)⟩
  case rest =>
    clear xl x0 x1 x2 x3 x4 x5 x6 x7 x8 x9 x10 x11 x12 x13 xf0 xf1 xf2 xf3 xf4 xf5 xf6 xf7 xf8 xf9 xf10 xf11 xf12 xf13 yl y0 y1 y2 y3 y4 y5 y6 y7 y8 y9 y10 y11 y12 y13 yf0 yf1 yf2 yf3 yf4 yf5 yf6 yf7 yf8 yf9 yf10 yf11 yf12 yf13 ml m0 m1 m2 m3 m4 m5 m6 m7 m8 m9 m10
    clear hX hY hM hR qR zR
    obtain ⟨g, rfl, q3, hX, hM, hY, hR, hg⟩ := hcut
    obtain ⟨w3, hw3⟩ : ∃ x, x = wc := ⟨wc, rfl⟩
    subst hw3
    have z3 := q3.size
    cases g
    case false =>
      have why := hg.out
      obtain ⟨xl, x0, x1, x2, x3, x4, x5, x6, x7, x8, x9, x10, x11, x12, x13, xf0, xf1, xf2, xf3, xf4, xf5, xf6, xf7, xf8, xf9, xf10, xf11, xf12, xf13⟩ := blk14f hX.out
      obtain ⟨yl, y0, y1, y2, y3, y4, y5, y6, y7, y8, y9, y10, y11, y12, y13, yf0, yf1, yf2, yf3, yf4, yf5, yf6, yf7, yf8, yf9, yf10, yf11, yf12, yf13⟩ := blk14f hY.out
      obtain ⟨ml, m0, m1, m2, m3, m4, m5, m6, m7, m8, m9, m10⟩ := blk11v hM.out
      go_upto_region 8 with fail
      clear xl x0 x1 x2 x3 x4 x5 x6 x7 x8 x9 x10 x11 x12 x13 xf0 xf1 xf2 xf3 xf4 xf5 xf6 xf7 xf8 xf9 xf10 xf11 xf12 xf13 yl y0 y1 y2 y3 y4 y5 y6 y7 y8 y9 y10 y11 y12 y13 yf0 yf1 yf2 yf3 yf4 yf5 yf6 yf7 yf8 yf9 yf10 yf11 yf12 yf13 ml m0 m1 m2 m3 m4 m5 m6 m7 m8 m9 m10
      have hfin := hid_mk (hy0.out false (why))
      refine wp_region_T' (fun w' => (w'.cell? ⟨w.heap.size, 0, none⟩ = some (.int .i64 id) ∧ w'.cell? ⟨w.heap.size, 1, none⟩ = some (.int .i64 t) ∧ w'.cell? ⟨w.heap.size, 2, none⟩ = some (.int .i64 v) ∧ w'.cell? ⟨w.heap.size, 3, none⟩ = some (.int .i64 base) ∧ w'.cell? ⟨w.heap.size, 4, none⟩ = some (.int .i64 bt) ∧ w'.cell? ⟨w.heap.size, 5, none⟩ = some (.slice RA n Rc) ∧ w'.cell? ⟨w.heap.size, 6, none⟩ = some (.string s) ∧ w'.cell? ⟨w.heap.size, 7, none⟩ = some (.slice VA m Vc) ∧ w'.cell? ⟨w.heap.size, 8, none⟩ = some (.int .i64 role) ∧ w'.cell? ⟨w.heap.size, 9, none⟩ = some (.int .i64 lead) ∧ w'.cell? ⟨w.heap.size, 10, none⟩ = some (.int .i64 timer) ∧ w'.cell? ⟨w.heap.size, 11, none⟩ = some (.int .i64 commit) ∧ w'.cell? ⟨w.heap.size, 12, none⟩ = some (.slice GA gn Gc) ∧ w'.cell? ⟨w.heap.size, 13, none⟩ = some (.slice PA pn Pc)) ∧ (w'.cell? ⟨gR, 0, none⟩ = some (.int .i64 2) ∧ w'.cell? ⟨gR, 1, none⟩ = some (.int .i64 id) ∧ w'.cell? ⟨gR, 2, none⟩ = some (.int .i64 fr) ∧ w'.cell? ⟨gR, 3, none⟩ = some (.int .i64 t) ∧ w'.cell? ⟨gR, 4, none⟩ = some (.bool false) ∧ w'.cell? ⟨gR, 5, none⟩ = some (.int .i64 0) ∧ w'.cell? ⟨gR, 6, none⟩ = some (.int .i64 0) ∧ w'.cell? ⟨gR, 7, none⟩ = some (.slice none 0 0) ∧ w'.cell? ⟨gR, 8, none⟩ = some (.int .i64 0) ∧ w'.cell? ⟨gR, 9, none⟩ = some (.string ⟨#[]⟩) ∧ w'.cell? ⟨gR, 10, none⟩ = some (.slice none 0 0))) (fun j => decide (j < 5)) 5 (by kernel_rfl) (by kernel_rfl) (by exact ⟨(blk14c hX.out).2, (blk11v hR.out).2⟩) (fun hS0 => ?_)
      replace hX := hid_mk hX.out.drew
      replace hY := hid_mk hY.out.drew
      replace hR := hid_mk hR.out.drew
      have qd : Below w.heap.size w w3.drew := by go_grown
      obtain ⟨wd, hwd⟩ : ∃ x, w3.drew = x := ⟨_, rfl⟩
      rw [hwd] at hS0 hX hY hR qd ⊢
      clear hwd
      have zd := qd.size
      refine wpAnyT_take (i := 0) rfl (by kernel_rfl) (by kernel_rfl) (by kernel_rfl) rfl (by kernel_rfl) (fun _ _ _ h => h) (by kernel_rfl) (fun w' hS => (by obtain ⟨⟨s0, s1, s2, s3, s4, s5, s6, s7, s8, s9, s10, s11, s12, s13⟩, ⟨r0, r1, r2, r3, r4, r5, r6, r7, r8, r9, r10⟩⟩ := hS; go_simp; try with_reducible rfl)) hS0 ?_
      simp only [Act.put]
      refine wpAnyT_take (i := 1) rfl (by kernel_rfl) (by kernel_rfl) (by kernel_rfl) rfl (by kernel_rfl) (fun _ _ _ h => h) (by kernel_rfl) (fun w' hS => (by obtain ⟨⟨s0, s1, s2, s3, s4, s5, s6, s7, s8, s9, s10, s11, s12, s13⟩, ⟨r0, r1, r2, r3, r4, r5, r6, r7, r8, r9, r10⟩⟩ := hS; go_simp; try with_reducible rfl)) hS0 ?_
      simp only [Act.put]
      obtain ⟨yl, y0, y1, y2, y3, y4, y5, y6, y7, y8, y9, y10, y11, y12, y13, yf0, yf1, yf2, yf3, yf4, yf5, yf6, yf7, yf8, yf9, yf10, yf11, yf12, yf13⟩ := blk14f hY.out
      refine wpAnyT_two (i := 2) (j := 3) (by kernel_rfl) rfl rfl (fun K hK => ?_) (fun K hK => ?_)
      · skip
        -- refine wpAnyT_one (i := 2) (by kernel_rfl) rfl (fun K hK => ?_)
        go_simp
        clear yl y0 y1 y2 y3 y4 y5 y6 y7 y8 y9 y10 y11 y12 y13 yf0 yf1 yf2 yf3 yf4 yf5 yf6 yf7 yf8 yf9 yf10 yf11 yf12 yf13
        obtain ⟨gS, hgS⟩ : ∃ g, wd.heap.size = g := ⟨_, rfl⟩
        have hL1 : Hid (Mgs (wd.alloc (.cells #[.int .i64 2, .int .i64 id, .int .i64 fr, .int .i64 t, .bool false, .int .i64 0, .int .i64 0, .slice none 0 0, .int .i64 0, .string ⟨#[]⟩, .slice none 0 0] 33)) 0 (some ⟨gS, 0, none⟩) 1 ([(⟨2, id, fr, t, false, 0, 0, [], 0, ⟨#[]⟩, []⟩ : Ms)].map fun M => (M, nilMA))) := by rw [← hgS]; exact mgs_one (M := ⟨2, id, fr, t, false, 0, 0, [], 0, ⟨#[]⟩, []⟩) (Blk.new _ _ _) rfl rfl rfl
        replace hX := hid_mk (hX.out.alloc (.cells #[.int .i64 2, .int .i64 id, .int .i64 fr, .int .i64 t, .bool false, .int .i64 0, .int .i64 0, .slice none 0 0, .int .i64 0, .string ⟨#[]⟩, .slice none 0 0] 33))
        replace hY := hid_mk (hY.out.alloc (.cells #[.int .i64 2, .int .i64 id, .int .i64 fr, .int .i64 t, .bool false, .int .i64 0, .int .i64 0, .slice none 0 0, .int .i64 0, .string ⟨#[]⟩, .slice none 0 0] 33))
        replace hR := hid_mk (hR.out.alloc (.cells #[.int .i64 2, .int .i64 id, .int .i64 fr, .int .i64 t, .bool false, .int .i64 0, .int .i64 0, .slice none 0 0, .int .i64 0, .string ⟨#[]⟩, .slice none 0 0] 33))
        have qS := qd.alloc qd.size (.cells #[.int .i64 2, .int .i64 id, .int .i64 fr, .int .i64 t, .bool false, .int .i64 0, .int .i64 0, .slice none 0 0, .int .i64 0, .string ⟨#[]⟩, .slice none 0 0] 33)
        obtain ⟨wS, hwS⟩ : ∃ x, wd.alloc (.cells #[.int .i64 2, .int .i64 id, .int .i64 fr, .int .i64 t, .bool false, .int .i64 0, .int .i64 0, .slice none 0 0, .int .i64 0, .string ⟨#[]⟩, .slice none 0 0] 33) = x := ⟨_, rfl⟩
        rw [hwS] at hL1 hX hY hR qS ⊢
        rw [hgS]
        replace hgS := hid_mk hgS
        clear hwS
        refine hK.out _ _ (fun _ => ⟨(blk14c hX.out).2, (blk11v hR.out).2⟩) ?_
        clear hK K
        try simp only [Act.put]
        obtain ⟨yl, y0, y1, y2, y3, y4, y5, y6, y7, y8, y9, y10, y11, y12, y13, yf0, yf1, yf2, yf3, yf4, yf5, yf6, yf7, yf8, yf9, yf10, yf11, yf12, yf13⟩ := blk14f hY.out
        refine wpAnyT_one (i := 3) (by kernel_rfl) rfl (fun K hK => ?_)
        go_simp
        clear yl y0 y1 y2 y3 y4 y5 y6 y7 y8 y9 y10 y11 y12 y13 yf0 yf1 yf2 yf3 yf4 yf5 yf6 yf7 yf8 yf9 yf10 yf11 yf12 yf13
        replace hL1 := hid_mk (mgs_set14K hL1.out hY.out (by decide) (by intro M hM; rw [List.mem_singleton] at hM; subst hM; exact ⟨rfl, rfl, rfl⟩) (.int .i64 id) (.int .i64 t) (.int .i64 v) (.int .i64 base) (.int .i64 bt) (.slice RA n Rc) (.string s) (.slice VA m Vc) (.int .i64 role) (.int .i64 lead) (.int .i64 timer) (.int .i64 commit) (.slice GA gn Gc) (.slice PA pn Pc))
        replace hX := hid_mk (set14_farS hX.out (by omega : w.heap.size ≠ w.heap.size + 1 + 1) (.int .i64 id) (.int .i64 t) (.int .i64 v) (.int .i64 base) (.int .i64 bt) (.slice RA n Rc) (.string s) (.slice VA m Vc) (.int .i64 role) (.int .i64 lead) (.int .i64 timer) (.int .i64 commit) (.slice GA gn Gc) (.slice PA pn Pc))
        replace hR := hid_mk (set14_farS hR.out (by omega : gR ≠ w.heap.size + 1 + 1) (.int .i64 id) (.int .i64 t) (.int .i64 v) (.int .i64 base) (.int .i64 bt) (.slice RA n Rc) (.string s) (.slice VA m Vc) (.int .i64 role) (.int .i64 lead) (.int .i64 timer) (.int .i64 commit) (.slice GA gn Gc) (.slice PA pn Pc))
        have qz := set14_below (.int .i64 id) (.int .i64 t) (.int .i64 v) (.int .i64 base) (.int .i64 bt) (.slice RA n Rc) (.string s) (.slice VA m Vc) (.int .i64 role) (.int .i64 lead) (.int .i64 timer) (.int .i64 commit) (.slice GA gn Gc) (.slice PA pn Pc) qS (by omega : w.heap.size ≤ w.heap.size + 1 + 1)
        replace hY := hid_mk (set14_blk hY.out (.int .i64 id) (.int .i64 t) (.int .i64 v) (.int .i64 base) (.int .i64 bt) (.slice RA n Rc) (.string s) (.slice VA m Vc) (.int .i64 role) (.int .i64 lead) (.int .i64 timer) (.int .i64 commit) (.slice GA gn Gc) (.slice PA pn Pc))
        obtain ⟨wz, hwz⟩ : ∃ x, set14 wS (w.heap.size + 1 + 1) (.int .i64 id) (.int .i64 t) (.int .i64 v) (.int .i64 base) (.int .i64 bt) (.slice RA n Rc) (.string s) (.slice VA m Vc) (.int .i64 role) (.int .i64 lead) (.int .i64 timer) (.int .i64 commit) (.slice GA gn Gc) (.slice PA pn Pc) = x := ⟨_, rfl⟩
        rw [hwz] at hX hR hY qz hL1
        unfold set14 at hwz
        rw [hwz]
        clear hwz
        refine hK.out _ _ (fun _ => ⟨(blk14c hX.out).2, (blk11v hR.out).2⟩) ?_
        clear hK K
        try simp only [Act.put]
        refine wpAnyT_one (i := 4) (by kernel_rfl) rfl (fun K hK => ?_)
        go_simp
        refine hK.out _ _ (fun _ => ⟨(blk14c hX.out).2, (blk11v hR.out).2⟩) ?_
        clear hK K
        try simp only [Act.put]
        refine wpAnyT_done (by kernel_rfl) ?_ _
        obtain ⟨_, y0, y1, y2, y3, y4, y5, y6, y7, y8, y9, y10, y11, y12, y13⟩ := blk14c hY.out
        go_wp2
        refine ends_ret hQ (v := .tuple #[.agg #[.int .i64 id, .int .i64 t, .int .i64 v, .int .i64 base, .int .i64 bt, .slice RA n Rc, .string s, .slice VA m Vc, .int .i64 role, .int .i64 lead, .int .i64 timer, .int .i64 commit, .slice GA gn Gc, .slice PA pn Pc], .slice (some ⟨gS, 0, none⟩) 1 1]) (by simp [results, Tryz.results16, go_sem, y0, y1, y2, y3, y4, y5, y6, y7, y8, y9, y10, y11, y12, y13]) rfl ?_
        exact ⟨⟨some ⟨gS, 0, none⟩, 1, 1, by rw [hfin.out.1]; rfl, by rw [hfin.out.2]; exact hL1.out, Nat.le_refl _⟩, qz⟩
      · skip
        -- refine wpAnyT_one (i := 3) (by kernel_rfl) rfl (fun K hK => ?_)
        go_simp
        clear yl y0 y1 y2 y3 y4 y5 y6 y7 y8 y9 y10 y11 y12 y13 yf0 yf1 yf2 yf3 yf4 yf5 yf6 yf7 yf8 yf9 yf10 yf11 yf12 yf13
        replace hX := hid_mk (set14_farS hX.out (by omega : w.heap.size ≠ w.heap.size + 1 + 1) (.int .i64 id) (.int .i64 t) (.int .i64 v) (.int .i64 base) (.int .i64 bt) (.slice RA n Rc) (.string s) (.slice VA m Vc) (.int .i64 role) (.int .i64 lead) (.int .i64 timer) (.int .i64 commit) (.slice GA gn Gc) (.slice PA pn Pc))
        replace hR := hid_mk (set14_farS hR.out (by omega : gR ≠ w.heap.size + 1 + 1) (.int .i64 id) (.int .i64 t) (.int .i64 v) (.int .i64 base) (.int .i64 bt) (.slice RA n Rc) (.string s) (.slice VA m Vc) (.int .i64 role) (.int .i64 lead) (.int .i64 timer) (.int .i64 commit) (.slice GA gn Gc) (.slice PA pn Pc))
        have qS := set14_below (.int .i64 id) (.int .i64 t) (.int .i64 v) (.int .i64 base) (.int .i64 bt) (.slice RA n Rc) (.string s) (.slice VA m Vc) (.int .i64 role) (.int .i64 lead) (.int .i64 timer) (.int .i64 commit) (.slice GA gn Gc) (.slice PA pn Pc) qd (by omega : w.heap.size ≤ w.heap.size + 1 + 1)
        replace hY := hid_mk (set14_blk hY.out (.int .i64 id) (.int .i64 t) (.int .i64 v) (.int .i64 base) (.int .i64 bt) (.slice RA n Rc) (.string s) (.slice VA m Vc) (.int .i64 role) (.int .i64 lead) (.int .i64 timer) (.int .i64 commit) (.slice GA gn Gc) (.slice PA pn Pc))
        obtain ⟨wS, hwz⟩ : ∃ x, set14 wd (w.heap.size + 1 + 1) (.int .i64 id) (.int .i64 t) (.int .i64 v) (.int .i64 base) (.int .i64 bt) (.slice RA n Rc) (.string s) (.slice VA m Vc) (.int .i64 role) (.int .i64 lead) (.int .i64 timer) (.int .i64 commit) (.slice GA gn Gc) (.slice PA pn Pc) = x := ⟨_, rfl⟩
        rw [hwz] at hX hR hY qS
        unfold set14 at hwz
        rw [hwz]
        clear hwz
        refine hK.out _ _ (fun _ => ⟨(blk14c hX.out).2, (blk11v hR.out).2⟩) ?_
        clear hK K
        try simp only [Act.put]
        refine wpAnyT_one (i := 2) (by kernel_rfl) rfl (fun K hK => ?_)
        go_simp
        obtain ⟨gS, hgS⟩ : ∃ g, wS.heap.size = g := ⟨_, rfl⟩
        have hL1 : Hid (Mgs (wS.alloc (.cells #[.int .i64 2, .int .i64 id, .int .i64 fr, .int .i64 t, .bool false, .int .i64 0, .int .i64 0, .slice none 0 0, .int .i64 0, .string ⟨#[]⟩, .slice none 0 0] 33)) 0 (some ⟨gS, 0, none⟩) 1 ([(⟨2, id, fr, t, false, 0, 0, [], 0, ⟨#[]⟩, []⟩ : Ms)].map fun M => (M, nilMA))) := by rw [← hgS]; exact mgs_one (M := ⟨2, id, fr, t, false, 0, 0, [], 0, ⟨#[]⟩, []⟩) (Blk.new _ _ _) rfl rfl rfl
        replace hX := hid_mk (hX.out.alloc (.cells #[.int .i64 2, .int .i64 id, .int .i64 fr, .int .i64 t, .bool false, .int .i64 0, .int .i64 0, .slice none 0 0, .int .i64 0, .string ⟨#[]⟩, .slice none 0 0] 33))
        replace hY := hid_mk (hY.out.alloc (.cells #[.int .i64 2, .int .i64 id, .int .i64 fr, .int .i64 t, .bool false, .int .i64 0, .int .i64 0, .slice none 0 0, .int .i64 0, .string ⟨#[]⟩, .slice none 0 0] 33))
        replace hR := hid_mk (hR.out.alloc (.cells #[.int .i64 2, .int .i64 id, .int .i64 fr, .int .i64 t, .bool false, .int .i64 0, .int .i64 0, .slice none 0 0, .int .i64 0, .string ⟨#[]⟩, .slice none 0 0] 33))
        have qz := qS.alloc qS.size (.cells #[.int .i64 2, .int .i64 id, .int .i64 fr, .int .i64 t, .bool false, .int .i64 0, .int .i64 0, .slice none 0 0, .int .i64 0, .string ⟨#[]⟩, .slice none 0 0] 33)
        obtain ⟨wz, hwS⟩ : ∃ x, wS.alloc (.cells #[.int .i64 2, .int .i64 id, .int .i64 fr, .int .i64 t, .bool false, .int .i64 0, .int .i64 0, .slice none 0 0, .int .i64 0, .string ⟨#[]⟩, .slice none 0 0] 33) = x := ⟨_, rfl⟩
        rw [hwS] at hL1 hX hY hR qz ⊢
        rw [hgS]
        replace hgS := hid_mk hgS
        clear hwS
        refine hK.out _ _ (fun _ => ⟨(blk14c hX.out).2, (blk11v hR.out).2⟩) ?_
        clear hK K
        try simp only [Act.put]
        refine wpAnyT_one (i := 4) (by kernel_rfl) rfl (fun K hK => ?_)
        go_simp
        refine hK.out _ _ (fun _ => ⟨(blk14c hX.out).2, (blk11v hR.out).2⟩) ?_
        clear hK K
        try simp only [Act.put]
        refine wpAnyT_done (by kernel_rfl) ?_ _
        obtain ⟨_, y0, y1, y2, y3, y4, y5, y6, y7, y8, y9, y10, y11, y12, y13⟩ := blk14c hY.out
        go_wp2
        refine ends_ret hQ (v := .tuple #[.agg #[.int .i64 id, .int .i64 t, .int .i64 v, .int .i64 base, .int .i64 bt, .slice RA n Rc, .string s, .slice VA m Vc, .int .i64 role, .int .i64 lead, .int .i64 timer, .int .i64 commit, .slice GA gn Gc, .slice PA pn Pc], .slice (some ⟨gS, 0, none⟩) 1 1]) (by simp [results, Tryz.results16, go_sem, y0, y1, y2, y3, y4, y5, y6, y7, y8, y9, y10, y11, y12, y13]) rfl ?_
        exact ⟨⟨some ⟨gS, 0, none⟩, 1, 1, by rw [hfin.out.1]; rfl, by rw [hfin.out.2]; exact hL1.out, Nat.le_refl _⟩, qz⟩
    have why := hg.out
    obtain ⟨xl, x0, x1, x2, x3, x4, x5, x6, x7, x8, x9, x10, x11, x12, x13, xf0, xf1, xf2, xf3, xf4, xf5, xf6, xf7, xf8, xf9, xf10, xf11, xf12, xf13⟩ := blk14f hX.out
    obtain ⟨yl, y0, y1, y2, y3, y4, y5, y6, y7, y8, y9, y10, y11, y12, y13, yf0, yf1, yf2, yf3, yf4, yf5, yf6, yf7, yf8, yf9, yf10, yf11, yf12, yf13⟩ := blk14f hY.out
    obtain ⟨ml, m0, m1, m2, m3, m4, m5, m6, m7, m8, m9, m10⟩ := blk11v hM.out
    obtain ⟨rl, b0, b1, b2, b3, b4, b5, b6, b7, b8, b9, b10⟩ := blk11v hR.out
    have rf4 := hR.out.frozen 4
    go_upto_region 8 with (go_at_call 31; refine (Draw_any d _).mono ?_; rintro e w' ⟨rfl, rfl⟩)
    clear xl x0 x1 x2 x3 x4 x5 x6 x7 x8 x9 x10 x11 x12 x13 xf0 xf1 xf2 xf3 xf4 xf5 xf6 xf7 xf8 xf9 xf10 xf11 xf12 xf13 yl y0 y1 y2 y3 y4 y5 y6 y7 y8 y9 y10 y11 y12 y13 yf0 yf1 yf2 yf3 yf4 yf5 yf6 yf7 yf8 yf9 yf10 yf11 yf12 yf13 ml m0 m1 m2 m3 m4 m5 m6 m7 m8 m9 m10
    clear rl b0 b1 b2 b3 b4 b5 b6 b7 b8 b9 b10
    clear rf4
    have hX2 : Blk (((w3.setCell ⟨gR, 4, none⟩ (.bool true)).setCell ⟨w.heap.size, 2, none⟩ (.int .i64 fr)).setCell ⟨w.heap.size, 10, none⟩ (.int .i64 (min (max d 0) 1048576))) w.heap.size 30 #[.int .i64 id, .int .i64 t, .int .i64 fr, .int .i64 base, .int .i64 bt, .slice RA n Rc, .string s, .slice VA m Vc, .int .i64 role, .int .i64 lead, .int .i64 (min (max d 0) 1048576), .int .i64 commit, .slice GA gn Gc, .slice PA pn Pc] := ((hX.out.far (p := ⟨gR, 4, none⟩) (by dsimp only; omega) (.bool true)).set_ 2 _).set_ 10 _
    have hY2 := ((hY.out.far (p := ⟨gR, 4, none⟩) (by dsimp only; omega) (.bool true)).far (p := ⟨w.heap.size, 2, none⟩) (by dsimp only; omega) (.int .i64 fr)).far (p := ⟨w.heap.size, 10, none⟩) (by dsimp only; omega) (.int .i64 (min (max d 0) 1048576))
    have hR2 : Blk (((w3.setCell ⟨gR, 4, none⟩ (.bool true)).setCell ⟨w.heap.size, 2, none⟩ (.int .i64 fr)).setCell ⟨w.heap.size, 10, none⟩ (.int .i64 (min (max d 0) 1048576))) gR 33 #[.int .i64 2, .int .i64 id, .int .i64 fr, .int .i64 t, .bool true, .int .i64 0, .int .i64 0, .slice none 0 0, .int .i64 0, .string ⟨#[]⟩, .slice none 0 0] := ((hR.out.set_ 4 (.bool true)).far (p := ⟨w.heap.size, 2, none⟩) (by dsimp only; omega) (.int .i64 fr)).far (p := ⟨w.heap.size, 10, none⟩) (by dsimp only; omega) (.int .i64 (min (max d 0) 1048576))
    have q4 := ((q3.setCell (p := ⟨gR, 4, none⟩) (by dsimp only; omega) (.bool true)).setCell (p := ⟨w.heap.size, 2, none⟩) (Nat.le_refl _) (.int .i64 fr)).setCell (p := ⟨w.heap.size, 10, none⟩) (Nat.le_refl _) (.int .i64 (min (max d 0) 1048576))
    obtain ⟨w4, hw4⟩ : ∃ x, (((w3.setCell ⟨gR, 4, none⟩ (.bool true)).setCell ⟨w.heap.size, 2, none⟩ (.int .i64 fr)).setCell ⟨w.heap.size, 10, none⟩ (.int .i64 (min (max d 0) 1048576))) = x := ⟨_, rfl⟩
    rw [hw4] at hX2 hY2 hR2 q4 ⊢
    clear hw4 hM
    replace hX := hid_mk hX2
    replace hY := hid_mk hY2
    replace hR := hid_mk hR2
    clear hX2 hY2 hR2
    have hfin := hid_mk (hy0.out true (why))
    refine wp_region_T' (fun w' => (w'.cell? ⟨w.heap.size, 0, none⟩ = some (.int .i64 id) ∧ w'.cell? ⟨w.heap.size, 1, none⟩ = some (.int .i64 t) ∧ w'.cell? ⟨w.heap.size, 2, none⟩ = some (.int .i64 fr) ∧ w'.cell? ⟨w.heap.size, 3, none⟩ = some (.int .i64 base) ∧ w'.cell? ⟨w.heap.size, 4, none⟩ = some (.int .i64 bt) ∧ w'.cell? ⟨w.heap.size, 5, none⟩ = some (.slice RA n Rc) ∧ w'.cell? ⟨w.heap.size, 6, none⟩ = some (.string s) ∧ w'.cell? ⟨w.heap.size, 7, none⟩ = some (.slice VA m Vc) ∧ w'.cell? ⟨w.heap.size, 8, none⟩ = some (.int .i64 role) ∧ w'.cell? ⟨w.heap.size, 9, none⟩ = some (.int .i64 lead) ∧ w'.cell? ⟨w.heap.size, 10, none⟩ = some (.int .i64 (min (max d 0) 1048576)) ∧ w'.cell? ⟨w.heap.size, 11, none⟩ = some (.int .i64 commit) ∧ w'.cell? ⟨w.heap.size, 12, none⟩ = some (.slice GA gn Gc) ∧ w'.cell? ⟨w.heap.size, 13, none⟩ = some (.slice PA pn Pc)) ∧ (w'.cell? ⟨gR, 0, none⟩ = some (.int .i64 2) ∧ w'.cell? ⟨gR, 1, none⟩ = some (.int .i64 id) ∧ w'.cell? ⟨gR, 2, none⟩ = some (.int .i64 fr) ∧ w'.cell? ⟨gR, 3, none⟩ = some (.int .i64 t) ∧ w'.cell? ⟨gR, 4, none⟩ = some (.bool true) ∧ w'.cell? ⟨gR, 5, none⟩ = some (.int .i64 0) ∧ w'.cell? ⟨gR, 6, none⟩ = some (.int .i64 0) ∧ w'.cell? ⟨gR, 7, none⟩ = some (.slice none 0 0) ∧ w'.cell? ⟨gR, 8, none⟩ = some (.int .i64 0) ∧ w'.cell? ⟨gR, 9, none⟩ = some (.string ⟨#[]⟩) ∧ w'.cell? ⟨gR, 10, none⟩ = some (.slice none 0 0))) (fun j => decide (j < 5)) 5 (by kernel_rfl) (by kernel_rfl) (by exact ⟨(blk14c hX.out).2, (blk11v hR.out).2⟩) (fun hS0 => ?_)
    replace hX := hid_mk hX.out.drew
    replace hY := hid_mk hY.out.drew
    replace hR := hid_mk hR.out.drew
    have qd : Below w.heap.size w w4.drew := by go_grown
    obtain ⟨wd, hwd⟩ : ∃ x, w4.drew = x := ⟨_, rfl⟩
    rw [hwd] at hS0 hX hY hR qd ⊢
    clear hwd
    have zd := qd.size
    refine wpAnyT_take (i := 0) rfl (by kernel_rfl) (by kernel_rfl) (by kernel_rfl) rfl (by kernel_rfl) (fun _ _ _ h => h) (by kernel_rfl) (fun w' hS => (by obtain ⟨⟨s0, s1, s2, s3, s4, s5, s6, s7, s8, s9, s10, s11, s12, s13⟩, ⟨r0, r1, r2, r3, r4, r5, r6, r7, r8, r9, r10⟩⟩ := hS; go_simp; try with_reducible rfl)) hS0 ?_
    simp only [Act.put]
    refine wpAnyT_take (i := 1) rfl (by kernel_rfl) (by kernel_rfl) (by kernel_rfl) rfl (by kernel_rfl) (fun _ _ _ h => h) (by kernel_rfl) (fun w' hS => (by obtain ⟨⟨s0, s1, s2, s3, s4, s5, s6, s7, s8, s9, s10, s11, s12, s13⟩, ⟨r0, r1, r2, r3, r4, r5, r6, r7, r8, r9, r10⟩⟩ := hS; go_simp; try with_reducible rfl)) hS0 ?_
    simp only [Act.put]
    obtain ⟨yl, y0, y1, y2, y3, y4, y5, y6, y7, y8, y9, y10, y11, y12, y13, yf0, yf1, yf2, yf3, yf4, yf5, yf6, yf7, yf8, yf9, yf10, yf11, yf12, yf13⟩ := blk14f hY.out
    refine wpAnyT_two (i := 2) (j := 3) (by kernel_rfl) rfl rfl (fun K hK => ?_) (fun K hK => ?_)
    · skip
      -- refine wpAnyT_one (i := 2) (by kernel_rfl) rfl (fun K hK => ?_)
      go_simp
      clear yl y0 y1 y2 y3 y4 y5 y6 y7 y8 y9 y10 y11 y12 y13 yf0 yf1 yf2 yf3 yf4 yf5 yf6 yf7 yf8 yf9 yf10 yf11 yf12 yf13
      obtain ⟨gS, hgS⟩ : ∃ g, wd.heap.size = g := ⟨_, rfl⟩
      have hL1 : Hid (Mgs (wd.alloc (.cells #[.int .i64 2, .int .i64 id, .int .i64 fr, .int .i64 t, .bool true, .int .i64 0, .int .i64 0, .slice none 0 0, .int .i64 0, .string ⟨#[]⟩, .slice none 0 0] 33)) 0 (some ⟨gS, 0, none⟩) 1 ([(⟨2, id, fr, t, true, 0, 0, [], 0, ⟨#[]⟩, []⟩ : Ms)].map fun M => (M, nilMA))) := by rw [← hgS]; exact mgs_one (M := ⟨2, id, fr, t, true, 0, 0, [], 0, ⟨#[]⟩, []⟩) (Blk.new _ _ _) rfl rfl rfl
      replace hX := hid_mk (hX.out.alloc (.cells #[.int .i64 2, .int .i64 id, .int .i64 fr, .int .i64 t, .bool true, .int .i64 0, .int .i64 0, .slice none 0 0, .int .i64 0, .string ⟨#[]⟩, .slice none 0 0] 33))
      replace hY := hid_mk (hY.out.alloc (.cells #[.int .i64 2, .int .i64 id, .int .i64 fr, .int .i64 t, .bool true, .int .i64 0, .int .i64 0, .slice none 0 0, .int .i64 0, .string ⟨#[]⟩, .slice none 0 0] 33))
      replace hR := hid_mk (hR.out.alloc (.cells #[.int .i64 2, .int .i64 id, .int .i64 fr, .int .i64 t, .bool true, .int .i64 0, .int .i64 0, .slice none 0 0, .int .i64 0, .string ⟨#[]⟩, .slice none 0 0] 33))
      have qS := qd.alloc qd.size (.cells #[.int .i64 2, .int .i64 id, .int .i64 fr, .int .i64 t, .bool true, .int .i64 0, .int .i64 0, .slice none 0 0, .int .i64 0, .string ⟨#[]⟩, .slice none 0 0] 33)
      obtain ⟨wS, hwS⟩ : ∃ x, wd.alloc (.cells #[.int .i64 2, .int .i64 id, .int .i64 fr, .int .i64 t, .bool true, .int .i64 0, .int .i64 0, .slice none 0 0, .int .i64 0, .string ⟨#[]⟩, .slice none 0 0] 33) = x := ⟨_, rfl⟩
      rw [hwS] at hL1 hX hY hR qS ⊢
      rw [hgS]
      replace hgS := hid_mk hgS
      clear hwS
      refine hK.out _ _ (fun _ => ⟨(blk14c hX.out).2, (blk11v hR.out).2⟩) ?_
      clear hK K
      try simp only [Act.put]
      obtain ⟨yl, y0, y1, y2, y3, y4, y5, y6, y7, y8, y9, y10, y11, y12, y13, yf0, yf1, yf2, yf3, yf4, yf5, yf6, yf7, yf8, yf9, yf10, yf11, yf12, yf13⟩ := blk14f hY.out
      refine wpAnyT_one (i := 3) (by kernel_rfl) rfl (fun K hK => ?_)
      go_simp
      clear yl y0 y1 y2 y3 y4 y5 y6 y7 y8 y9 y10 y11 y12 y13 yf0 yf1 yf2 yf3 yf4 yf5 yf6 yf7 yf8 yf9 yf10 yf11 yf12 yf13
      replace hL1 := hid_mk (mgs_set14K hL1.out hY.out (by decide) (by intro M hM; rw [List.mem_singleton] at hM; subst hM; exact ⟨rfl, rfl, rfl⟩) (.int .i64 id) (.int .i64 t) (.int .i64 fr) (.int .i64 base) (.int .i64 bt) (.slice RA n Rc) (.string s) (.slice VA m Vc) (.int .i64 role) (.int .i64 lead) (.int .i64 (min (max d 0) 1048576)) (.int .i64 commit) (.slice GA gn Gc) (.slice PA pn Pc))
      replace hX := hid_mk (set14_farS hX.out (by omega : w.heap.size ≠ w.heap.size + 1 + 1) (.int .i64 id) (.int .i64 t) (.int .i64 fr) (.int .i64 base) (.int .i64 bt) (.slice RA n Rc) (.string s) (.slice VA m Vc) (.int .i64 role) (.int .i64 lead) (.int .i64 (min (max d 0) 1048576)) (.int .i64 commit) (.slice GA gn Gc) (.slice PA pn Pc))
      replace hR := hid_mk (set14_farS hR.out (by omega : gR ≠ w.heap.size + 1 + 1) (.int .i64 id) (.int .i64 t) (.int .i64 fr) (.int .i64 base) (.int .i64 bt) (.slice RA n Rc) (.string s) (.slice VA m Vc) (.int .i64 role) (.int .i64 lead) (.int .i64 (min (max d 0) 1048576)) (.int .i64 commit) (.slice GA gn Gc) (.slice PA pn Pc))
      have qz := set14_below (.int .i64 id) (.int .i64 t) (.int .i64 fr) (.int .i64 base) (.int .i64 bt) (.slice RA n Rc) (.string s) (.slice VA m Vc) (.int .i64 role) (.int .i64 lead) (.int .i64 (min (max d 0) 1048576)) (.int .i64 commit) (.slice GA gn Gc) (.slice PA pn Pc) qS (by omega : w.heap.size ≤ w.heap.size + 1 + 1)
      replace hY := hid_mk (set14_blk hY.out (.int .i64 id) (.int .i64 t) (.int .i64 fr) (.int .i64 base) (.int .i64 bt) (.slice RA n Rc) (.string s) (.slice VA m Vc) (.int .i64 role) (.int .i64 lead) (.int .i64 (min (max d 0) 1048576)) (.int .i64 commit) (.slice GA gn Gc) (.slice PA pn Pc))
      obtain ⟨wz, hwz⟩ : ∃ x, set14 wS (w.heap.size + 1 + 1) (.int .i64 id) (.int .i64 t) (.int .i64 fr) (.int .i64 base) (.int .i64 bt) (.slice RA n Rc) (.string s) (.slice VA m Vc) (.int .i64 role) (.int .i64 lead) (.int .i64 (min (max d 0) 1048576)) (.int .i64 commit) (.slice GA gn Gc) (.slice PA pn Pc) = x := ⟨_, rfl⟩
      rw [hwz] at hX hR hY qz hL1
      unfold set14 at hwz
      rw [hwz]
      clear hwz
      refine hK.out _ _ (fun _ => ⟨(blk14c hX.out).2, (blk11v hR.out).2⟩) ?_
      clear hK K
      try simp only [Act.put]
      refine wpAnyT_one (i := 4) (by kernel_rfl) rfl (fun K hK => ?_)
      go_simp
      refine hK.out _ _ (fun _ => ⟨(blk14c hX.out).2, (blk11v hR.out).2⟩) ?_
      clear hK K
      try simp only [Act.put]
      refine wpAnyT_done (by kernel_rfl) ?_ _
      obtain ⟨_, y0, y1, y2, y3, y4, y5, y6, y7, y8, y9, y10, y11, y12, y13⟩ := blk14c hY.out
      go_wp2
      refine ends_ret hQ (v := .tuple #[.agg #[.int .i64 id, .int .i64 t, .int .i64 fr, .int .i64 base, .int .i64 bt, .slice RA n Rc, .string s, .slice VA m Vc, .int .i64 role, .int .i64 lead, .int .i64 (min (max d 0) 1048576), .int .i64 commit, .slice GA gn Gc, .slice PA pn Pc], .slice (some ⟨gS, 0, none⟩) 1 1]) (by simp [results, Tryz.results16, go_sem, y0, y1, y2, y3, y4, y5, y6, y7, y8, y9, y10, y11, y12, y13]) rfl ?_
      exact ⟨⟨some ⟨gS, 0, none⟩, 1, 1, by rw [hfin.out.1]; rfl, by rw [hfin.out.2]; exact hL1.out, Nat.le_refl _⟩, qz⟩
    · skip
      -- refine wpAnyT_one (i := 3) (by kernel_rfl) rfl (fun K hK => ?_)
      go_simp
      clear yl y0 y1 y2 y3 y4 y5 y6 y7 y8 y9 y10 y11 y12 y13 yf0 yf1 yf2 yf3 yf4 yf5 yf6 yf7 yf8 yf9 yf10 yf11 yf12 yf13
      replace hX := hid_mk (set14_farS hX.out (by omega : w.heap.size ≠ w.heap.size + 1 + 1) (.int .i64 id) (.int .i64 t) (.int .i64 fr) (.int .i64 base) (.int .i64 bt) (.slice RA n Rc) (.string s) (.slice VA m Vc) (.int .i64 role) (.int .i64 lead) (.int .i64 (min (max d 0) 1048576)) (.int .i64 commit) (.slice GA gn Gc) (.slice PA pn Pc))
      replace hR := hid_mk (set14_farS hR.out (by omega : gR ≠ w.heap.size + 1 + 1) (.int .i64 id) (.int .i64 t) (.int .i64 fr) (.int .i64 base) (.int .i64 bt) (.slice RA n Rc) (.string s) (.slice VA m Vc) (.int .i64 role) (.int .i64 lead) (.int .i64 (min (max d 0) 1048576)) (.int .i64 commit) (.slice GA gn Gc) (.slice PA pn Pc))
      have qS := set14_below (.int .i64 id) (.int .i64 t) (.int .i64 fr) (.int .i64 base) (.int .i64 bt) (.slice RA n Rc) (.string s) (.slice VA m Vc) (.int .i64 role) (.int .i64 lead) (.int .i64 (min (max d 0) 1048576)) (.int .i64 commit) (.slice GA gn Gc) (.slice PA pn Pc) qd (by omega : w.heap.size ≤ w.heap.size + 1 + 1)
      replace hY := hid_mk (set14_blk hY.out (.int .i64 id) (.int .i64 t) (.int .i64 fr) (.int .i64 base) (.int .i64 bt) (.slice RA n Rc) (.string s) (.slice VA m Vc) (.int .i64 role) (.int .i64 lead) (.int .i64 (min (max d 0) 1048576)) (.int .i64 commit) (.slice GA gn Gc) (.slice PA pn Pc))
      obtain ⟨wS, hwz⟩ : ∃ x, set14 wd (w.heap.size + 1 + 1) (.int .i64 id) (.int .i64 t) (.int .i64 fr) (.int .i64 base) (.int .i64 bt) (.slice RA n Rc) (.string s) (.slice VA m Vc) (.int .i64 role) (.int .i64 lead) (.int .i64 (min (max d 0) 1048576)) (.int .i64 commit) (.slice GA gn Gc) (.slice PA pn Pc) = x := ⟨_, rfl⟩
      rw [hwz] at hX hR hY qS
      unfold set14 at hwz
      rw [hwz]
      clear hwz
      refine hK.out _ _ (fun _ => ⟨(blk14c hX.out).2, (blk11v hR.out).2⟩) ?_
      clear hK K
      try simp only [Act.put]
      refine wpAnyT_one (i := 2) (by kernel_rfl) rfl (fun K hK => ?_)
      go_simp
      obtain ⟨gS, hgS⟩ : ∃ g, wS.heap.size = g := ⟨_, rfl⟩
      have hL1 : Hid (Mgs (wS.alloc (.cells #[.int .i64 2, .int .i64 id, .int .i64 fr, .int .i64 t, .bool true, .int .i64 0, .int .i64 0, .slice none 0 0, .int .i64 0, .string ⟨#[]⟩, .slice none 0 0] 33)) 0 (some ⟨gS, 0, none⟩) 1 ([(⟨2, id, fr, t, true, 0, 0, [], 0, ⟨#[]⟩, []⟩ : Ms)].map fun M => (M, nilMA))) := by rw [← hgS]; exact mgs_one (M := ⟨2, id, fr, t, true, 0, 0, [], 0, ⟨#[]⟩, []⟩) (Blk.new _ _ _) rfl rfl rfl
      replace hX := hid_mk (hX.out.alloc (.cells #[.int .i64 2, .int .i64 id, .int .i64 fr, .int .i64 t, .bool true, .int .i64 0, .int .i64 0, .slice none 0 0, .int .i64 0, .string ⟨#[]⟩, .slice none 0 0] 33))
      replace hY := hid_mk (hY.out.alloc (.cells #[.int .i64 2, .int .i64 id, .int .i64 fr, .int .i64 t, .bool true, .int .i64 0, .int .i64 0, .slice none 0 0, .int .i64 0, .string ⟨#[]⟩, .slice none 0 0] 33))
      replace hR := hid_mk (hR.out.alloc (.cells #[.int .i64 2, .int .i64 id, .int .i64 fr, .int .i64 t, .bool true, .int .i64 0, .int .i64 0, .slice none 0 0, .int .i64 0, .string ⟨#[]⟩, .slice none 0 0] 33))
      have qz := qS.alloc qS.size (.cells #[.int .i64 2, .int .i64 id, .int .i64 fr, .int .i64 t, .bool true, .int .i64 0, .int .i64 0, .slice none 0 0, .int .i64 0, .string ⟨#[]⟩, .slice none 0 0] 33)
      obtain ⟨wz, hwS⟩ : ∃ x, wS.alloc (.cells #[.int .i64 2, .int .i64 id, .int .i64 fr, .int .i64 t, .bool true, .int .i64 0, .int .i64 0, .slice none 0 0, .int .i64 0, .string ⟨#[]⟩, .slice none 0 0] 33) = x := ⟨_, rfl⟩
      rw [hwS] at hL1 hX hY hR qz ⊢
      rw [hgS]
      replace hgS := hid_mk hgS
      clear hwS
      refine hK.out _ _ (fun _ => ⟨(blk14c hX.out).2, (blk11v hR.out).2⟩) ?_
      clear hK K
      try simp only [Act.put]
      refine wpAnyT_one (i := 4) (by kernel_rfl) rfl (fun K hK => ?_)
      go_simp
      refine hK.out _ _ (fun _ => ⟨(blk14c hX.out).2, (blk11v hR.out).2⟩) ?_
      clear hK K
      try simp only [Act.put]
      refine wpAnyT_done (by kernel_rfl) ?_ _
      obtain ⟨_, y0, y1, y2, y3, y4, y5, y6, y7, y8, y9, y10, y11, y12, y13⟩ := blk14c hY.out
      go_wp2
      refine ends_ret hQ (v := .tuple #[.agg #[.int .i64 id, .int .i64 t, .int .i64 fr, .int .i64 base, .int .i64 bt, .slice RA n Rc, .string s, .slice VA m Vc, .int .i64 role, .int .i64 lead, .int .i64 (min (max d 0) 1048576), .int .i64 commit, .slice GA gn Gc, .slice PA pn Pc], .slice (some ⟨gS, 0, none⟩) 1 1]) (by simp [results, Tryz.results16, go_sem, y0, y1, y2, y3, y4, y5, y6, y7, y8, y9, y10, y11, y12, y13]) rfl ?_
      exact ⟨⟨some ⟨gS, 0, none⟩, 1, 1, by rw [hfin.out.1]; rfl, by rw [hfin.out.2]; exact hL1.out, Nat.le_refl _⟩, qz⟩
end Go.Proofs.YtnaindoeihnmpaaGreatDoor
