/-
  WHAT IS PROVED HERE: what snap.Install hands back of any node and message. Conditions: the slices are of at most 2^47 bytes; the library's table stands.
-/
import Derived.Test.YtncdjmpdbinanaaGreatDoorZAnsI
import Derived.Test.YtncdjmpdbinanaaGreatDoorZGNd
import Derived.Test.YtncdjmpdbinanaaGreatDoorZGEx
import Derived.Test.YtncdjmpdbinanaaGreatDoorZVt0
import Derived.Test.YtncdjmpdbinanaaGreatDoorZGMy4
import Derived.Test.YtncdjmpdbinanaaGreatDoorZGStd
import Derived.Deep.DeepCutAuto
namespace Go.Proofs.YtncdjmpdbinanaaGreatDoor
open Go.RowKit

set_option maxRecDepth 100000 in
set_option maxHeartbeats 12800000 in
theorem SInst1_any (N : Nd) (a : NdA) (M : Ms) (b : MsA) (d : Int) (w : World) {B : Nat} (hBw : B ≤ w.heap.size) (hN : NdOk w B N a) (hMs : MsOk w B M b) (ht : Tab w) (hK : (rightN N && (mayM M && (M.kind == 5 && (M.to == N.id && decide (M.term ≤ N.h.t))))) = true → N.h.t ≤ M.term → ¬ N.role = 2 → False) :
    Calls Tryz.prog 17 #[nodeV N a, msgV M b, .int .i64 d] w fun e w' => RetNL w B (instN N M d) (instL N M) e w' := by
  have hmf : ∀ (fn : Fn) (first cap : Array Value) (w : World), (Instr.makeFunc fn first cap).run Tryz.prog w = .ok (.func fn first cap) w := fun _ _ _ _ => rfl
  obtain ⟨zr, hzr⟩ : ∃ z, rightN N = z := ⟨_, rfl⟩
  obtain ⟨zm, hzm⟩ : ∃ z, mayM M = z := ⟨_, rfl⟩
  obtain ⟨zh, hzh⟩ : ∃ z, rightH (instH N M) = z := ⟨_, rfl⟩
  obtain ⟨la, hla⟩ : ∃ x, lastJ N.h.l = x := ⟨_, rfl⟩
  obtain ⟨AJ, hAJ⟩ : ∃ x, adoptJ N.h.l M.index M.lterm = x := ⟨_, rfl⟩
  have hsh : Hid (zr = true → rightJ N.h.l = true) := fun e => (right_n (by rw [hzr]; exact e)).1
  obtain ⟨N', hN'⟩ : ∃ z, instN N M d = z := ⟨_, rfl⟩
  obtain ⟨L, hL⟩ : ∃ z, instL N M = z := ⟨_, rfl⟩
  have hNo : Hid ((zr && (zm && (M.kind == 5 && (M.to == N.id && decide (M.term ≤ N.h.t))))) = false → N' = N ∧ L = []) := fun e => by
    have hp : toldC N M 5 = false := by unfold toldC; rw [hzr, hzm]; exact e
    rw [← hN', ← hL]
    exact told_not hp
  have hYes : Hid ((zr && (zm && (M.kind == 5 && (M.to == N.id && decide (M.term ≤ N.h.t))))) = true →
      (M.term < N.h.t → N' = N ∧ L = [fitM N.id M.fr N.h.t false la]) ∧ (N.h.t ≤ M.term → N.role = 2 → N' = N ∧ L = []) ∧
      (N.h.t ≤ M.term → ¬ N.role = 2 → M.index ≤ N.commit → N' = followN N M.fr d ∧ L = [fitM N.id M.fr N.h.t true N.commit]) ∧
      (N.h.t ≤ M.term → ¬ N.role = 2 → N.commit < M.index → zh = false → N' = followN N M.fr d ∧ L = [fitM N.id M.fr N.h.t false la]) ∧
      (N.h.t ≤ M.term → ¬ N.role = 2 → N.commit < M.index → zh = true → N' = ⟨N.id, ⟨N.h.t, N.h.v, AJ, M.s, M.vs⟩, 0, M.fr, min (max d 0) 1048576, M.index, [], []⟩ ∧ L = [fitM N.id M.fr N.h.t true M.index])) := fun e => by
    have hp : toldC N M 5 = true := by unfold toldC; rw [hzr, hzm]; exact e
    rw [← hN', ← hL, ← hla, ← hzh, ← hAJ]
    exact inst_say hp
  rw [hzr, hzm] at hK
  rw [hN', hL]
  have hAL : AJ.rs.length ≤ N.h.l.rs.length := by rw [← hAJ]; exact adopt_lenK _ _ _
  have hAD := fun (w : World) (h0 : B ≤ w.heap.size) (k1 : Recs w B a.R.A a.R.n N.h.l.rs) => Adopt_any N.h.l M.index M.lterm a.R.A a.R.n a.R.c w h0 (by have := hN.rb; omega) hN.rc k1
  rw [hAJ] at hAD
  unfold instH at hzh
  rw [hAJ] at hzh
  replace hzr := hid_mk hzr
  replace hzm := hid_mk hzm
  have hWR := fun (R V : Slc) (w : World) (k1 : R.n ≤ 140737488355328) (k2 : V.n ≤ 140737488355328) (k3 : Recs w B R.A R.n AJ.rs) (k4 : Ints w B V.A V.n M.vs) (k5 : Tab w) => WRight_any ⟨N.h.t, N.h.v, AJ, M.s, M.vs⟩ R V w k1 k2 k3 k4 k5
  rw [hzh] at hWR
  replace hzh := hid_mk hzh
  replace hla := hid_mk hla
  replace hAJ := hid_mk hAJ
  clear hN' hL
  have hER := ERight_any N a
  have hEM := EMay_any M b
  have hN0 := hN
  have hM0 := hMs
  obtain ⟨hr, hrc, hrb, hi, hvc, hvb, _, _, _, _, _, _, _⟩ := hN
  obtain ⟨_, _, _, hui, huc, hub, hus⟩ := hMs
  obtain ⟨id, ⟨t, v, ⟨base, bt, rs⟩, s, vs⟩, role, lead, timer, commit, got, ps⟩ := N
  obtain ⟨⟨RA, n, Rc⟩, ⟨VA, m, Vc⟩, ⟨GA, gn, Gc⟩, ⟨PA, pn, Pc⟩⟩ := a
  obtain ⟨kind, fr, mto, mt, ok, index, lterm, mrs, mcommit, ms, mvs⟩ := M
  obtain ⟨la3, lb3, lrs⟩ := AJ
  obtain ⟨⟨QA, qn, Qc⟩, ⟨UA, un, Uc⟩⟩ := b
  unfold nodeV at hER
  unfold msgV at hEM
  dsimp only at hr hrc hrb hi hvc hvb hui huc hub hus hNo hYes hER hEM hsh hzh hla hAJ hAL hAD hWR hK
  replace hK := hid_mk hK
  have hnn : n ≤ 4398046511104 := by omega
  have hX := hid_mk (((Blk.new w 30 #[.int .i64 id, .int .i64 t, .int .i64 v, .int .i64 base, .int .i64 bt, .slice RA n Rc, .string s, .slice VA m Vc, .int .i64 role, .int .i64 lead, .int .i64 timer, .int .i64 commit, .slice GA gn Gc, .slice PA pn Pc]).alloc (.cells #[.int .i64 kind, .int .i64 fr, .int .i64 mto, .int .i64 mt, .bool ok, .int .i64 index, .int .i64 lterm, .slice QA qn Qc, .int .i64 mcommit, .string ms, .slice UA un Uc] 32)).alloc (.cells #[.int .i64 0, .int .i64 0, .int .i64 0, .int .i64 0, .int .i64 0, .slice none 0 0, .string ⟨#[]⟩, .slice none 0 0, .int .i64 0, .int .i64 0, .int .i64 0, .int .i64 0, .slice none 0 0, .slice none 0 0] 30))
  have hM : Hid (Blk (((w.alloc (.cells #[.int .i64 id, .int .i64 t, .int .i64 v, .int .i64 base, .int .i64 bt, .slice RA n Rc, .string s, .slice VA m Vc, .int .i64 role, .int .i64 lead, .int .i64 timer, .int .i64 commit, .slice GA gn Gc, .slice PA pn Pc] 30)).alloc (.cells #[.int .i64 kind, .int .i64 fr, .int .i64 mto, .int .i64 mt, .bool ok, .int .i64 index, .int .i64 lterm, .slice QA qn Qc, .int .i64 mcommit, .string ms, .slice UA un Uc] 32)).alloc (.cells #[.int .i64 0, .int .i64 0, .int .i64 0, .int .i64 0, .int .i64 0, .slice none 0 0, .string ⟨#[]⟩, .slice none 0 0, .int .i64 0, .int .i64 0, .int .i64 0, .int .i64 0, .slice none 0 0, .slice none 0 0] 30)) (w.heap.size + 1) 32 #[.int .i64 kind, .int .i64 fr, .int .i64 mto, .int .i64 mt, .bool ok, .int .i64 index, .int .i64 lterm, .slice QA qn Qc, .int .i64 mcommit, .string ms, .slice UA un Uc]) := (Blk.new_ (by simp)).alloc _
  have hY : Hid (Blk (((w.alloc (.cells #[.int .i64 id, .int .i64 t, .int .i64 v, .int .i64 base, .int .i64 bt, .slice RA n Rc, .string s, .slice VA m Vc, .int .i64 role, .int .i64 lead, .int .i64 timer, .int .i64 commit, .slice GA gn Gc, .slice PA pn Pc] 30)).alloc (.cells #[.int .i64 kind, .int .i64 fr, .int .i64 mto, .int .i64 mt, .bool ok, .int .i64 index, .int .i64 lterm, .slice QA qn Qc, .int .i64 mcommit, .string ms, .slice UA un Uc] 32)).alloc (.cells #[.int .i64 0, .int .i64 0, .int .i64 0, .int .i64 0, .int .i64 0, .slice none 0 0, .string ⟨#[]⟩, .slice none 0 0, .int .i64 0, .int .i64 0, .int .i64 0, .int .i64 0, .slice none 0 0, .slice none 0 0] 30)) (w.heap.size + 1 + 1) 30 #[.int .i64 0, .int .i64 0, .int .i64 0, .int .i64 0, .int .i64 0, .slice none 0 0, .string ⟨#[]⟩, .slice none 0 0, .int .i64 0, .int .i64 0, .int .i64 0, .int .i64 0, .slice none 0 0, .slice none 0 0]) := Blk.new_ (by simp)
  have hBy : B ≤ w.heap.size + 1 + 1 := by omega
  show Calls Tryz.prog 17 #[.agg #[.int .i64 id, .int .i64 t, .int .i64 v, .int .i64 base, .int .i64 bt, .slice RA n Rc, .string s, .slice VA m Vc, .int .i64 role, .int .i64 lead, .int .i64 timer, .int .i64 commit, .slice GA gn Gc, .slice PA pn Pc], .agg #[.int .i64 kind, .int .i64 fr, .int .i64 mto, .int .i64 mt, .bool ok, .int .i64 index, .int .i64 lterm, .slice QA qn Qc, .int .i64 mcommit, .string ms, .slice UA un Uc], .int .i64 d] w _
  refine calls_of_wpQ Tryz.func17 rfl ?_
  intro Q hQ
  simp only [Tryz.ntmps17, List.size_toArray, List.length_cons, List.length_nil, Nat.reduceAdd, Nat.reduceSub, Array.replicate_succ, Array.replicate_zero, List.push_toArray, List.append_toArray, List.nil_append, List.cons_append]
  go_wp2_with fail
  refine (hER _ (B := B) (hN0.to (by go_grown)) (ht.to (by go_grown))).mono ?_
  rw [hzr.out]
  rintro e w1 ⟨rfl, hb1⟩
  have q1 := (after (w := w) hb1 (by go_grown)).1
  replace hX := hid_mk (hX.out.keep (after hb1 (by go_grown)).1)
  replace hY := hid_mk (hY.out.keep (after hb1 (by go_grown)).1)
  replace hM := hid_mk (hM.out.keep (after hb1 (by go_grown)).1)
  clear hb1
  obtain ⟨xl, x0, x1, x2, x3, x4, x5, x6, x7, x8, x9, x10, x11, x12, x13, xf0, xf1, xf2, xf3, xf4, xf5, xf6, xf7, xf8, xf9, xf10, xf11, xf12, xf13⟩ := blk14f hX.out
  obtain ⟨yl, y0, y1, y2, y3, y4, y5, y6, y7, y8, y9, y10, y11, y12, y13, yf0, yf1, yf2, yf3, yf4, yf5, yf6, yf7, yf8, yf9, yf10, yf11, yf12, yf13⟩ := blk14f hY.out
  obtain ⟨ml, m0, m1, m2, m3, m4, m5, m6, m7, m8, m9, m10⟩ := blk11v hM.out
  cases zr
  case false =>
    have hno := hid_mk (hNo.out (rfl))
    go_wp2
    clear xl x0 x1 x2 x3 x4 x5 x6 x7 x8 x9 x10 x11 x12 x13 xf0 xf1 xf2 xf3 xf4 xf5 xf6 xf7 xf8 xf9 xf10 xf11 xf12 xf13 yl y0 y1 y2 y3 y4 y5 y6 y7 y8 y9 y10 y11 y12 y13 yf0 yf1 yf2 yf3 yf4 yf5 yf6 yf7 yf8 yf9 yf10 yf11 yf12 yf13 ml m0 m1 m2 m3 m4 m5 m6 m7 m8 m9 m10
    have kfin := set14_blk hY.out (.int .i64 id) (.int .i64 t) (.int .i64 v) (.int .i64 base) (.int .i64 bt) (.slice RA n Rc) (.string s) (.slice VA m Vc) (.int .i64 role) (.int .i64 lead) (.int .i64 timer) (.int .i64 commit) (.slice GA gn Gc) (.slice PA pn Pc)
    unfold set14 at kfin
    obtain ⟨_, r0, r1, r2, r3, r4, r5, r6, r7, r8, r9, r10, r11, r12, r13⟩ := blk14c kfin
    refine ends_ret hQ (v := .tuple #[.agg #[.int .i64 id, .int .i64 t, .int .i64 v, .int .i64 base, .int .i64 bt, .slice RA n Rc, .string s, .slice VA m Vc, .int .i64 role, .int .i64 lead, .int .i64 timer, .int .i64 commit, .slice GA gn Gc, .slice PA pn Pc], .slice none 0 0]) (by simp [results, Tryz.results17, go_sem, r0, r1, r2, r3, r4, r5, r6, r7, r8, r9, r10, r11, r12, r13]) rfl ?_
    exact ⟨⟨⟨RA, n, Rc⟩, ⟨VA, m, Vc⟩, ⟨GA, gn, Gc⟩, ⟨PA, pn, Pc⟩⟩, none, 0, 0, by rw [hno.out.1]; rfl, by rw [hno.out.1]; exact hN0.to (set14_below (.int .i64 id) (.int .i64 t) (.int .i64 v) (.int .i64 base) (.int .i64 bt) (.slice RA n Rc) (.string s) (.slice VA m Vc) (.int .i64 role) (.int .i64 lead) (.int .i64 timer) (.int .i64 commit) (.slice GA gn Gc) (.slice PA pn Pc) q1 (by omega)), by rw [hno.out.2]; exact mgs_nil, Nat.le_refl _, set14_below (.int .i64 id) (.int .i64 t) (.int .i64 v) (.int .i64 base) (.int .i64 bt) (.slice RA n Rc) (.string s) (.slice VA m Vc) (.int .i64 role) (.int .i64 lead) (.int .i64 timer) (.int .i64 commit) (.slice GA gn Gc) (.slice PA pn Pc) q1 (by omega)⟩
  go_wp2_with fail
  clear xl x0 x1 x2 x3 x4 x5 x6 x7 x8 x9 x10 x11 x12 x13 xf0 xf1 xf2 xf3 xf4 xf5 xf6 xf7 xf8 xf9 xf10 xf11 xf12 xf13 yl y0 y1 y2 y3 y4 y5 y6 y7 y8 y9 y10 y11 y12 y13 yf0 yf1 yf2 yf3 yf4 yf5 yf6 yf7 yf8 yf9 yf10 yf11 yf12 yf13 ml m0 m1 m2 m3 m4 m5 m6 m7 m8 m9 m10
  refine (hEM _ (B := B) (hM0.to (by go_grown))).mono ?_
  rw [hzm.out]
  rintro e w2 ⟨rfl, hb1⟩
  have q2 := (after (w := w) hb1 (by go_grown)).1
  replace hX := hid_mk (hX.out.keep (after hb1 (by go_grown)).1)
  replace hY := hid_mk (hY.out.keep (after hb1 (by go_grown)).1)
  replace hM := hid_mk (hM.out.keep (after hb1 (by go_grown)).1)
  clear hb1
  obtain ⟨xl, x0, x1, x2, x3, x4, x5, x6, x7, x8, x9, x10, x11, x12, x13, xf0, xf1, xf2, xf3, xf4, xf5, xf6, xf7, xf8, xf9, xf10, xf11, xf12, xf13⟩ := blk14f hX.out
  obtain ⟨yl, y0, y1, y2, y3, y4, y5, y6, y7, y8, y9, y10, y11, y12, y13, yf0, yf1, yf2, yf3, yf4, yf5, yf6, yf7, yf8, yf9, yf10, yf11, yf12, yf13⟩ := blk14f hY.out
  obtain ⟨ml, m0, m1, m2, m3, m4, m5, m6, m7, m8, m9, m10⟩ := blk11v hM.out
  cases zm
  case false =>
    have hno := hid_mk (hNo.out (rfl))
    go_wp2
    clear xl x0 x1 x2 x3 x4 x5 x6 x7 x8 x9 x10 x11 x12 x13 xf0 xf1 xf2 xf3 xf4 xf5 xf6 xf7 xf8 xf9 xf10 xf11 xf12 xf13 yl y0 y1 y2 y3 y4 y5 y6 y7 y8 y9 y10 y11 y12 y13 yf0 yf1 yf2 yf3 yf4 yf5 yf6 yf7 yf8 yf9 yf10 yf11 yf12 yf13 ml m0 m1 m2 m3 m4 m5 m6 m7 m8 m9 m10
    have kfin := set14_blk hY.out (.int .i64 id) (.int .i64 t) (.int .i64 v) (.int .i64 base) (.int .i64 bt) (.slice RA n Rc) (.string s) (.slice VA m Vc) (.int .i64 role) (.int .i64 lead) (.int .i64 timer) (.int .i64 commit) (.slice GA gn Gc) (.slice PA pn Pc)
    unfold set14 at kfin
    obtain ⟨_, r0, r1, r2, r3, r4, r5, r6, r7, r8, r9, r10, r11, r12, r13⟩ := blk14c kfin
    refine ends_ret hQ (v := .tuple #[.agg #[.int .i64 id, .int .i64 t, .int .i64 v, .int .i64 base, .int .i64 bt, .slice RA n Rc, .string s, .slice VA m Vc, .int .i64 role, .int .i64 lead, .int .i64 timer, .int .i64 commit, .slice GA gn Gc, .slice PA pn Pc], .slice none 0 0]) (by simp [results, Tryz.results17, go_sem, r0, r1, r2, r3, r4, r5, r6, r7, r8, r9, r10, r11, r12, r13]) rfl ?_
    exact ⟨⟨⟨RA, n, Rc⟩, ⟨VA, m, Vc⟩, ⟨GA, gn, Gc⟩, ⟨PA, pn, Pc⟩⟩, none, 0, 0, by rw [hno.out.1]; rfl, by rw [hno.out.1]; exact hN0.to (set14_below (.int .i64 id) (.int .i64 t) (.int .i64 v) (.int .i64 base) (.int .i64 bt) (.slice RA n Rc) (.string s) (.slice VA m Vc) (.int .i64 role) (.int .i64 lead) (.int .i64 timer) (.int .i64 commit) (.slice GA gn Gc) (.slice PA pn Pc) q2 (by omega)), by rw [hno.out.2]; exact mgs_nil, Nat.le_refl _, set14_below (.int .i64 id) (.int .i64 t) (.int .i64 v) (.int .i64 base) (.int .i64 bt) (.slice RA n Rc) (.string s) (.slice VA m Vc) (.int .i64 role) (.int .i64 lead) (.int .i64 timer) (.int .i64 commit) (.slice GA gn Gc) (.slice PA pn Pc) q2 (by omega)⟩
  by_cases k1 : kind = 5
  case neg =>
    have k1' : (kind == 5) = false := by simpa using k1
    have k1b : (kind != 5) = true := by simpa using k1
    have k1n := hid_mk k1'
    replace k1 := hid_mk k1
    have hno := hid_mk (hNo.out (by rw [k1n.out]; rfl))
    go_wp2
    clear xl x0 x1 x2 x3 x4 x5 x6 x7 x8 x9 x10 x11 x12 x13 xf0 xf1 xf2 xf3 xf4 xf5 xf6 xf7 xf8 xf9 xf10 xf11 xf12 xf13 yl y0 y1 y2 y3 y4 y5 y6 y7 y8 y9 y10 y11 y12 y13 yf0 yf1 yf2 yf3 yf4 yf5 yf6 yf7 yf8 yf9 yf10 yf11 yf12 yf13 ml m0 m1 m2 m3 m4 m5 m6 m7 m8 m9 m10
    have kfin := set14_blk hY.out (.int .i64 id) (.int .i64 t) (.int .i64 v) (.int .i64 base) (.int .i64 bt) (.slice RA n Rc) (.string s) (.slice VA m Vc) (.int .i64 role) (.int .i64 lead) (.int .i64 timer) (.int .i64 commit) (.slice GA gn Gc) (.slice PA pn Pc)
    unfold set14 at kfin
    obtain ⟨_, r0, r1, r2, r3, r4, r5, r6, r7, r8, r9, r10, r11, r12, r13⟩ := blk14c kfin
    refine ends_ret hQ (v := .tuple #[.agg #[.int .i64 id, .int .i64 t, .int .i64 v, .int .i64 base, .int .i64 bt, .slice RA n Rc, .string s, .slice VA m Vc, .int .i64 role, .int .i64 lead, .int .i64 timer, .int .i64 commit, .slice GA gn Gc, .slice PA pn Pc], .slice none 0 0]) (by simp [results, Tryz.results17, go_sem, r0, r1, r2, r3, r4, r5, r6, r7, r8, r9, r10, r11, r12, r13]) rfl ?_
    exact ⟨⟨⟨RA, n, Rc⟩, ⟨VA, m, Vc⟩, ⟨GA, gn, Gc⟩, ⟨PA, pn, Pc⟩⟩, none, 0, 0, by rw [hno.out.1]; rfl, by rw [hno.out.1]; exact hN0.to (set14_below (.int .i64 id) (.int .i64 t) (.int .i64 v) (.int .i64 base) (.int .i64 bt) (.slice RA n Rc) (.string s) (.slice VA m Vc) (.int .i64 role) (.int .i64 lead) (.int .i64 timer) (.int .i64 commit) (.slice GA gn Gc) (.slice PA pn Pc) q2 (by omega)), by rw [hno.out.2]; exact mgs_nil, Nat.le_refl _, set14_below (.int .i64 id) (.int .i64 t) (.int .i64 v) (.int .i64 base) (.int .i64 bt) (.slice RA n Rc) (.string s) (.slice VA m Vc) (.int .i64 role) (.int .i64 lead) (.int .i64 timer) (.int .i64 commit) (.slice GA gn Gc) (.slice PA pn Pc) q2 (by omega)⟩
  have k1' : (kind == 5) = true := by simpa using k1
  have k1b : (kind != 5) = false := by simpa using k1
  replace k1 := hid_mk k1
  by_cases k2 : mto = id
  case neg =>
    have k2' : (mto == id) = false := by simpa using k2
    have k2b : (mto != id) = true := by simpa using k2
    have k2n := hid_mk k2'
    replace k2 := hid_mk k2
    have hno := hid_mk (hNo.out (by rw [k2n.out, k1.out]; rfl))
    go_wp2
    clear xl x0 x1 x2 x3 x4 x5 x6 x7 x8 x9 x10 x11 x12 x13 xf0 xf1 xf2 xf3 xf4 xf5 xf6 xf7 xf8 xf9 xf10 xf11 xf12 xf13 yl y0 y1 y2 y3 y4 y5 y6 y7 y8 y9 y10 y11 y12 y13 yf0 yf1 yf2 yf3 yf4 yf5 yf6 yf7 yf8 yf9 yf10 yf11 yf12 yf13 ml m0 m1 m2 m3 m4 m5 m6 m7 m8 m9 m10
    have kfin := set14_blk hY.out (.int .i64 id) (.int .i64 t) (.int .i64 v) (.int .i64 base) (.int .i64 bt) (.slice RA n Rc) (.string s) (.slice VA m Vc) (.int .i64 role) (.int .i64 lead) (.int .i64 timer) (.int .i64 commit) (.slice GA gn Gc) (.slice PA pn Pc)
    unfold set14 at kfin
    obtain ⟨_, r0, r1, r2, r3, r4, r5, r6, r7, r8, r9, r10, r11, r12, r13⟩ := blk14c kfin
    refine ends_ret hQ (v := .tuple #[.agg #[.int .i64 id, .int .i64 t, .int .i64 v, .int .i64 base, .int .i64 bt, .slice RA n Rc, .string s, .slice VA m Vc, .int .i64 role, .int .i64 lead, .int .i64 timer, .int .i64 commit, .slice GA gn Gc, .slice PA pn Pc], .slice none 0 0]) (by simp [results, Tryz.results17, go_sem, r0, r1, r2, r3, r4, r5, r6, r7, r8, r9, r10, r11, r12, r13]) rfl ?_
    exact ⟨⟨⟨RA, n, Rc⟩, ⟨VA, m, Vc⟩, ⟨GA, gn, Gc⟩, ⟨PA, pn, Pc⟩⟩, none, 0, 0, by rw [hno.out.1]; rfl, by rw [hno.out.1]; exact hN0.to (set14_below (.int .i64 id) (.int .i64 t) (.int .i64 v) (.int .i64 base) (.int .i64 bt) (.slice RA n Rc) (.string s) (.slice VA m Vc) (.int .i64 role) (.int .i64 lead) (.int .i64 timer) (.int .i64 commit) (.slice GA gn Gc) (.slice PA pn Pc) q2 (by omega)), by rw [hno.out.2]; exact mgs_nil, Nat.le_refl _, set14_below (.int .i64 id) (.int .i64 t) (.int .i64 v) (.int .i64 base) (.int .i64 bt) (.slice RA n Rc) (.string s) (.slice VA m Vc) (.int .i64 role) (.int .i64 lead) (.int .i64 timer) (.int .i64 commit) (.slice GA gn Gc) (.slice PA pn Pc) q2 (by omega)⟩
  have k2' : (mto == id) = true := by simpa using k2
  have k2b : (mto != id) = false := by simpa using k2
  replace k2 := hid_mk k2
  by_cases k3 : mt ≤ t
  case neg =>
    have k3n := hid_mk (show decide (mt ≤ t) = false by simpa using k3)
    have k3' : t < mt := by omega
    replace k3 := hid_mk k3
    have hno := hid_mk (hNo.out (by rw [k3n.out, k2.out, k1.out]; simp))
    go_wp2
    clear xl x0 x1 x2 x3 x4 x5 x6 x7 x8 x9 x10 x11 x12 x13 xf0 xf1 xf2 xf3 xf4 xf5 xf6 xf7 xf8 xf9 xf10 xf11 xf12 xf13 yl y0 y1 y2 y3 y4 y5 y6 y7 y8 y9 y10 y11 y12 y13 yf0 yf1 yf2 yf3 yf4 yf5 yf6 yf7 yf8 yf9 yf10 yf11 yf12 yf13 ml m0 m1 m2 m3 m4 m5 m6 m7 m8 m9 m10
    have kfin := set14_blk hY.out (.int .i64 id) (.int .i64 t) (.int .i64 v) (.int .i64 base) (.int .i64 bt) (.slice RA n Rc) (.string s) (.slice VA m Vc) (.int .i64 role) (.int .i64 lead) (.int .i64 timer) (.int .i64 commit) (.slice GA gn Gc) (.slice PA pn Pc)
    unfold set14 at kfin
    obtain ⟨_, r0, r1, r2, r3, r4, r5, r6, r7, r8, r9, r10, r11, r12, r13⟩ := blk14c kfin
    refine ends_ret hQ (v := .tuple #[.agg #[.int .i64 id, .int .i64 t, .int .i64 v, .int .i64 base, .int .i64 bt, .slice RA n Rc, .string s, .slice VA m Vc, .int .i64 role, .int .i64 lead, .int .i64 timer, .int .i64 commit, .slice GA gn Gc, .slice PA pn Pc], .slice none 0 0]) (by simp [results, Tryz.results17, go_sem, r0, r1, r2, r3, r4, r5, r6, r7, r8, r9, r10, r11, r12, r13]) rfl ?_
    exact ⟨⟨⟨RA, n, Rc⟩, ⟨VA, m, Vc⟩, ⟨GA, gn, Gc⟩, ⟨PA, pn, Pc⟩⟩, none, 0, 0, by rw [hno.out.1]; rfl, by rw [hno.out.1]; exact hN0.to (set14_below (.int .i64 id) (.int .i64 t) (.int .i64 v) (.int .i64 base) (.int .i64 bt) (.slice RA n Rc) (.string s) (.slice VA m Vc) (.int .i64 role) (.int .i64 lead) (.int .i64 timer) (.int .i64 commit) (.slice GA gn Gc) (.slice PA pn Pc) q2 (by omega)), by rw [hno.out.2]; exact mgs_nil, Nat.le_refl _, set14_below (.int .i64 id) (.int .i64 t) (.int .i64 v) (.int .i64 base) (.int .i64 bt) (.slice RA n Rc) (.string s) (.slice VA m Vc) (.int .i64 role) (.int .i64 lead) (.int .i64 timer) (.int .i64 commit) (.slice GA gn Gc) (.slice PA pn Pc) q2 (by omega)⟩
  have k3n := hid_mk (show decide (mt ≤ t) = true by simpa using k3)
  have k3' : ¬ t < mt := by omega
  obtain ⟨hyA, hyB, hyC, hyD, hyE⟩ := hYes.out (by rw [k1.out, k2.out, k3n.out]; simp)
  replace hyA := hid_mk hyA
  replace hyB := hid_mk hyB
  replace hyC := hid_mk hyC
  replace hyD := hid_mk hyD
  replace hyE := hid_mk hyE
  clear hYes hNo hER hEM
  go_wp2_with fail
  clear xl x0 x1 x2 x3 x4 x5 x6 x7 x8 x9 x10 x11 x12 x13 xf0 xf1 xf2 xf3 xf4 xf5 xf6 xf7 xf8 xf9 xf10 xf11 xf12 xf13 yl y0 y1 y2 y3 y4 y5 y6 y7 y8 y9 y10 y11 y12 y13 yf0 yf1 yf2 yf3 yf4 yf5 yf6 yf7 yf8 yf9 yf10 yf11 yf12 yf13 ml m0 m1 m2 m3 m4 m5 m6 m7 m8 m9 m10
  refine (Last_any ⟨base, bt, rs⟩ RA n Rc _ (B := B) (by omega) (hr.to (by go_grown))).mono ?_
  obtain ⟨lt, hlt⟩ : ∃ x, (termJ ⟨base, bt, rs⟩ (lastJ ⟨base, bt, rs⟩)).getD 0 = x := ⟨_, rfl⟩
  rw [if_pos (hsh.out (by first | rfl | trivial)), if_pos (hsh.out (by first | rfl | trivial)), hlt, hla.out]
  replace hlt := hid_mk hlt
  rintro e w3 ⟨rfl, hb1⟩
  have q3 := (after (w := w) hb1 (by go_grown)).1
  replace hX := hid_mk (hX.out.keep (after hb1 (by go_grown)).1)
  replace hY := hid_mk (hY.out.keep (after hb1 (by go_grown)).1)
  replace hM := hid_mk (hM.out.keep (after hb1 (by go_grown)).1)
  clear hb1
  by_cases g1 : mt < t
  case pos =>
    have g1' : decide (mt < t) = true := by simpa using g1
    replace hyA := hid_mk (hyA.out g1)
    obtain ⟨xl, x0, x1, x2, x3, x4, x5, x6, x7, x8, x9, x10, x11, x12, x13, xf0, xf1, xf2, xf3, xf4, xf5, xf6, xf7, xf8, xf9, xf10, xf11, xf12, xf13⟩ := blk14f hX.out
    obtain ⟨yl, y0, y1, y2, y3, y4, y5, y6, y7, y8, y9, y10, y11, y12, y13, yf0, yf1, yf2, yf3, yf4, yf5, yf6, yf7, yf8, yf9, yf10, yf11, yf12, yf13⟩ := blk14f hY.out
    obtain ⟨ml, m0, m1, m2, m3, m4, m5, m6, m7, m8, m9, m10⟩ := blk11v hM.out
    have hfin := hid_mk (hyA.out)
    go_upto_region 6 with fail
    clear xl x0 x1 x2 x3 x4 x5 x6 x7 x8 x9 x10 x11 x12 x13 xf0 xf1 xf2 xf3 xf4 xf5 xf6 xf7 xf8 xf9 xf10 xf11 xf12 xf13 yl y0 y1 y2 y3 y4 y5 y6 y7 y8 y9 y10 y11 y12 y13 yf0 yf1 yf2 yf3 yf4 yf5 yf6 yf7 yf8 yf9 yf10 yf11 yf12 yf13 ml m0 m1 m2 m3 m4 m5 m6 m7 m8 m9 m10
    refine wp_region_T' (fun w' => w'.cell? ⟨w.heap.size, 0, none⟩ = some (.int .i64 id) ∧ w'.cell? ⟨w.heap.size, 1, none⟩ = some (.int .i64 t) ∧ w'.cell? ⟨w.heap.size, 2, none⟩ = some (.int .i64 v) ∧ w'.cell? ⟨w.heap.size, 3, none⟩ = some (.int .i64 base) ∧ w'.cell? ⟨w.heap.size, 4, none⟩ = some (.int .i64 bt) ∧ w'.cell? ⟨w.heap.size, 5, none⟩ = some (.slice RA n Rc) ∧ w'.cell? ⟨w.heap.size, 6, none⟩ = some (.string s) ∧ w'.cell? ⟨w.heap.size, 7, none⟩ = some (.slice VA m Vc) ∧ w'.cell? ⟨w.heap.size, 8, none⟩ = some (.int .i64 role) ∧ w'.cell? ⟨w.heap.size, 9, none⟩ = some (.int .i64 lead) ∧ w'.cell? ⟨w.heap.size, 10, none⟩ = some (.int .i64 timer) ∧ w'.cell? ⟨w.heap.size, 11, none⟩ = some (.int .i64 commit) ∧ w'.cell? ⟨w.heap.size, 12, none⟩ = some (.slice GA gn Gc) ∧ w'.cell? ⟨w.heap.size, 13, none⟩ = some (.slice PA pn Pc)) (fun j => decide (j < 6)) 6 (by kernel_rfl) (by kernel_rfl) (by exact ⟨hX.out.cell 0, hX.out.cell 1, hX.out.cell 2, hX.out.cell 3, hX.out.cell 4, hX.out.cell 5, hX.out.cell 6, hX.out.cell 7, hX.out.cell 8, hX.out.cell 9, hX.out.cell 10, hX.out.cell 11, hX.out.cell 12, hX.out.cell 13⟩) (fun hS0 => ?_)
    replace hX := hid_mk hX.out.drew
    replace hY := hid_mk hY.out.drew
    replace hM := hid_mk hM.out.drew
    have qd : Below w.heap.size w w3.drew := by go_grown
    obtain ⟨wd, hwd⟩ : ∃ x, w3.drew = x := ⟨_, rfl⟩
    rw [hwd] at hS0 hX hY hM qd ⊢
    clear hwd
    have zd := qd.size
    refine wpAnyT_take (i := 0) rfl (by kernel_rfl) (by kernel_rfl) (by kernel_rfl) rfl (by kernel_rfl) (fun _ _ _ h => h) (by kernel_rfl) (fun w' hS => (by obtain ⟨s0, s1, s2, s3, s4, s5, s6, s7, s8, s9, s10, s11, s12, s13⟩ := hS; go_simp; try with_reducible rfl)) hS0 ?_
    simp only [Act.put]
    refine wpAnyT_take (i := 1) rfl (by kernel_rfl) (by kernel_rfl) (by kernel_rfl) rfl (by kernel_rfl) (fun _ _ _ h => h) (by kernel_rfl) (fun w' hS => (by obtain ⟨s0, s1, s2, s3, s4, s5, s6, s7, s8, s9, s10, s11, s12, s13⟩ := hS; go_simp; try with_reducible rfl)) hS0 ?_
    simp only [Act.put]
    refine wpAnyT_take (i := 2) rfl (by kernel_rfl) (by kernel_rfl) (by kernel_rfl) rfl (by kernel_rfl) (fun _ _ _ h => h) (by kernel_rfl) (fun w' hS => (by obtain ⟨s0, s1, s2, s3, s4, s5, s6, s7, s8, s9, s10, s11, s12, s13⟩ := hS; go_simp; try with_reducible rfl)) hS0 ?_
    simp only [Act.put]
    refine wpAnyT_one (i := 3) (by kernel_rfl) rfl (fun K hK => ?_)
    go_simp
    refine (AnsI_any false la id fr t w.heap.size (w.heap.size + 1) _ (hX.out.cell 0) (hX.out.cell 1) (hM.out.cell 1)).mono ?_
    rintro e wS ⟨gS, rfl, kS, hb1⟩
    have qS := (after (w := w) hb1 qd).1
    have hL1 : Hid (Mgs wS 0 (some ⟨gS, 0, none⟩) 1 ([fitM id fr t false la].map fun M => (M, nilMA))) := hid_mk (mgs_one (M := fitM id fr t false la) kS rfl rfl rfl)
    replace hX := hid_mk (hX.out.keep hb1)
    replace hY := hid_mk (hY.out.keep hb1)
    replace hM := hid_mk (hM.out.keep hb1)
    clear hb1 kS
    refine hK.out _ _ (fun _ => ⟨hX.out.cell 0, hX.out.cell 1, hX.out.cell 2, hX.out.cell 3, hX.out.cell 4, hX.out.cell 5, hX.out.cell 6, hX.out.cell 7, hX.out.cell 8, hX.out.cell 9, hX.out.cell 10, hX.out.cell 11, hX.out.cell 12, hX.out.cell 13⟩) ?_
    clear hK K
    try simp only [Act.put]
    obtain ⟨yl, y0, y1, y2, y3, y4, y5, y6, y7, y8, y9, y10, y11, y12, y13, yf0, yf1, yf2, yf3, yf4, yf5, yf6, yf7, yf8, yf9, yf10, yf11, yf12, yf13⟩ := blk14f hY.out
    refine wpAnyT_one (i := 4) (by kernel_rfl) rfl (fun K hK => ?_)
    go_simp
    clear yl y0 y1 y2 y3 y4 y5 y6 y7 y8 y9 y10 y11 y12 y13 yf0 yf1 yf2 yf3 yf4 yf5 yf6 yf7 yf8 yf9 yf10 yf11 yf12 yf13
    replace hL1 := hid_mk (mgs_set14K hL1.out hY.out (by decide) (by intro M hM; rw [List.mem_singleton] at hM; subst hM; exact ⟨rfl, rfl, rfl⟩) (.int .i64 id) (.int .i64 t) (.int .i64 v) (.int .i64 base) (.int .i64 bt) (.slice RA n Rc) (.string s) (.slice VA m Vc) (.int .i64 role) (.int .i64 lead) (.int .i64 timer) (.int .i64 commit) (.slice GA gn Gc) (.slice PA pn Pc))
    replace hX := hid_mk (set14_farS hX.out (by omega : w.heap.size ≠ w.heap.size + 1 + 1) (.int .i64 id) (.int .i64 t) (.int .i64 v) (.int .i64 base) (.int .i64 bt) (.slice RA n Rc) (.string s) (.slice VA m Vc) (.int .i64 role) (.int .i64 lead) (.int .i64 timer) (.int .i64 commit) (.slice GA gn Gc) (.slice PA pn Pc))
    have qz := set14_below (.int .i64 id) (.int .i64 t) (.int .i64 v) (.int .i64 base) (.int .i64 bt) (.slice RA n Rc) (.string s) (.slice VA m Vc) (.int .i64 role) (.int .i64 lead) (.int .i64 timer) (.int .i64 commit) (.slice GA gn Gc) (.slice PA pn Pc) qS (by omega : w.heap.size ≤ w.heap.size + 1 + 1)
    have hYo := hY
    replace hY := hid_mk (set14_blk hY.out (.int .i64 id) (.int .i64 t) (.int .i64 v) (.int .i64 base) (.int .i64 bt) (.slice RA n Rc) (.string s) (.slice VA m Vc) (.int .i64 role) (.int .i64 lead) (.int .i64 timer) (.int .i64 commit) (.slice GA gn Gc) (.slice PA pn Pc))
    obtain ⟨wz, hwz⟩ : ∃ x, set14 wS (w.heap.size + 1 + 1) (.int .i64 id) (.int .i64 t) (.int .i64 v) (.int .i64 base) (.int .i64 bt) (.slice RA n Rc) (.string s) (.slice VA m Vc) (.int .i64 role) (.int .i64 lead) (.int .i64 timer) (.int .i64 commit) (.slice GA gn Gc) (.slice PA pn Pc) = x := ⟨_, rfl⟩
    rw [hwz] at hX hY hL1 qz
    unfold set14 at hwz
    rw [hwz]
    clear hwz hYo
    refine hK.out _ _ (fun _ => ⟨hX.out.cell 0, hX.out.cell 1, hX.out.cell 2, hX.out.cell 3, hX.out.cell 4, hX.out.cell 5, hX.out.cell 6, hX.out.cell 7, hX.out.cell 8, hX.out.cell 9, hX.out.cell 10, hX.out.cell 11, hX.out.cell 12, hX.out.cell 13⟩) ?_
    clear hK K
    try simp only [Act.put]
    refine wpAnyT_one (i := 5) (by kernel_rfl) rfl (fun K hK => ?_)
    go_simp
    refine hK.out _ _ (fun _ => ⟨hX.out.cell 0, hX.out.cell 1, hX.out.cell 2, hX.out.cell 3, hX.out.cell 4, hX.out.cell 5, hX.out.cell 6, hX.out.cell 7, hX.out.cell 8, hX.out.cell 9, hX.out.cell 10, hX.out.cell 11, hX.out.cell 12, hX.out.cell 13⟩) ?_
    clear hK K
    try simp only [Act.put]
    refine wpAnyT_done (by kernel_rfl) ?_ _
    obtain ⟨_, y0, y1, y2, y3, y4, y5, y6, y7, y8, y9, y10, y11, y12, y13⟩ := blk14c hY.out
    go_wp2
    refine ends_ret hQ (v := .tuple #[.agg #[.int .i64 id, .int .i64 t, .int .i64 v, .int .i64 base, .int .i64 bt, .slice RA n Rc, .string s, .slice VA m Vc, .int .i64 role, .int .i64 lead, .int .i64 timer, .int .i64 commit, .slice GA gn Gc, .slice PA pn Pc], .slice (some ⟨gS, 0, none⟩) 1 1]) (by simp [results, Tryz.results17, go_sem, y0, y1, y2, y3, y4, y5, y6, y7, y8, y9, y10, y11, y12, y13]) rfl ?_
    exact ⟨⟨⟨RA, n, Rc⟩, ⟨VA, m, Vc⟩, ⟨GA, gn, Gc⟩, ⟨PA, pn, Pc⟩⟩, some ⟨gS, 0, none⟩, 1, 1, by rw [hfin.out.1]; rfl, by (rw [hfin.out.1]; exact hN0.to qz), by rw [hfin.out.2]; exact hL1.out, Nat.le_refl _, qz⟩
  have g1' : decide (mt < t) = false := by simpa using g1
  replace g1 : t ≤ mt := by omega
  replace g1 := hid_mk g1
  obtain ⟨xl, x0, x1, x2, x3, x4, x5, x6, x7, x8, x9, x10, x11, x12, x13, xf0, xf1, xf2, xf3, xf4, xf5, xf6, xf7, xf8, xf9, xf10, xf11, xf12, xf13⟩ := blk14f hX.out
  obtain ⟨yl, y0, y1, y2, y3, y4, y5, y6, y7, y8, y9, y10, y11, y12, y13, yf0, yf1, yf2, yf3, yf4, yf5, yf6, yf7, yf8, yf9, yf10, yf11, yf12, yf13⟩ := blk14f hY.out
  obtain ⟨ml, m0, m1, m2, m3, m4, m5, m6, m7, m8, m9, m10⟩ := blk11v hM.out
  by_cases g2 : role = 2
  case pos =>
    have g2' : (role == 2) = true := by simpa using g2
    replace hyB := hid_mk (hyB.out g1.out g2)
    replace g2 := hid_mk g2
    have hno := hid_mk (hyB.out)
    go_wp2
    clear xl x0 x1 x2 x3 x4 x5 x6 x7 x8 x9 x10 x11 x12 x13 xf0 xf1 xf2 xf3 xf4 xf5 xf6 xf7 xf8 xf9 xf10 xf11 xf12 xf13 yl y0 y1 y2 y3 y4 y5 y6 y7 y8 y9 y10 y11 y12 y13 yf0 yf1 yf2 yf3 yf4 yf5 yf6 yf7 yf8 yf9 yf10 yf11 yf12 yf13 ml m0 m1 m2 m3 m4 m5 m6 m7 m8 m9 m10
    have kfin := set14_blk hY.out (.int .i64 id) (.int .i64 t) (.int .i64 v) (.int .i64 base) (.int .i64 bt) (.slice RA n Rc) (.string s) (.slice VA m Vc) (.int .i64 role) (.int .i64 lead) (.int .i64 timer) (.int .i64 commit) (.slice GA gn Gc) (.slice PA pn Pc)
    unfold set14 at kfin
    obtain ⟨_, r0, r1, r2, r3, r4, r5, r6, r7, r8, r9, r10, r11, r12, r13⟩ := blk14c kfin
    refine ends_ret hQ (v := .tuple #[.agg #[.int .i64 id, .int .i64 t, .int .i64 v, .int .i64 base, .int .i64 bt, .slice RA n Rc, .string s, .slice VA m Vc, .int .i64 role, .int .i64 lead, .int .i64 timer, .int .i64 commit, .slice GA gn Gc, .slice PA pn Pc], .slice none 0 0]) (by simp [results, Tryz.results17, go_sem, r0, r1, r2, r3, r4, r5, r6, r7, r8, r9, r10, r11, r12, r13]) rfl ?_
    exact ⟨⟨⟨RA, n, Rc⟩, ⟨VA, m, Vc⟩, ⟨GA, gn, Gc⟩, ⟨PA, pn, Pc⟩⟩, none, 0, 0, by rw [hno.out.1]; rfl, by rw [hno.out.1]; exact hN0.to (set14_below (.int .i64 id) (.int .i64 t) (.int .i64 v) (.int .i64 base) (.int .i64 bt) (.slice RA n Rc) (.string s) (.slice VA m Vc) (.int .i64 role) (.int .i64 lead) (.int .i64 timer) (.int .i64 commit) (.slice GA gn Gc) (.slice PA pn Pc) q3 (by omega)), by rw [hno.out.2]; exact mgs_nil, Nat.le_refl _, set14_below (.int .i64 id) (.int .i64 t) (.int .i64 v) (.int .i64 base) (.int .i64 bt) (.slice RA n Rc) (.string s) (.slice VA m Vc) (.int .i64 role) (.int .i64 lead) (.int .i64 timer) (.int .i64 commit) (.slice GA gn Gc) (.slice PA pn Pc) q3 (by omega)⟩
  have g2' : (role == 2) = false := by simpa using g2
  replace g2 := hid_mk g2
  exact (hK.out (by rw [k1.out, k2.out, k3n.out]; simp) g1.out g2.out).elim
set_option maxRecDepth 100000 in
set_option maxHeartbeats 12800000 in
theorem SInst2_any (N : Nd) (a : NdA) (M : Ms) (b : MsA) (d : Int) (w : World) {B : Nat} (hBw : B ≤ w.heap.size) (hN : NdOk w B N a) (hMs : MsOk w B M b) (ht : Tab w) (hA : rightN N = true ∧ mayM M = true ∧ M.kind = 5 ∧ M.to = N.id ∧ M.term ≤ N.h.t ∧ N.h.t ≤ M.term ∧ ¬ N.role = 2) (hB : N.commit < M.index → rightH (instH N M) = false) :
    Calls Tryz.prog 17 #[nodeV N a, msgV M b, .int .i64 d] w fun e w' => RetNL w B (instN N M d) (instL N M) e w' := by
  have hmf : ∀ (fn : Fn) (first cap : Array Value) (w : World), (Instr.makeFunc fn first cap).run Tryz.prog w = .ok (.func fn first cap) w := fun _ _ _ _ => rfl
  obtain ⟨zr, hzr⟩ : ∃ z, rightN N = z := ⟨_, rfl⟩
  obtain ⟨zm, hzm⟩ : ∃ z, mayM M = z := ⟨_, rfl⟩
  obtain ⟨zh, hzh⟩ : ∃ z, rightH (instH N M) = z := ⟨_, rfl⟩
  obtain ⟨la, hla⟩ : ∃ x, lastJ N.h.l = x := ⟨_, rfl⟩
  obtain ⟨AJ, hAJ⟩ : ∃ x, adoptJ N.h.l M.index M.lterm = x := ⟨_, rfl⟩
  have hsh : Hid (zr = true → rightJ N.h.l = true) := fun e => (right_n (by rw [hzr]; exact e)).1
  obtain ⟨N', hN'⟩ : ∃ z, instN N M d = z := ⟨_, rfl⟩
  obtain ⟨L, hL⟩ : ∃ z, instL N M = z := ⟨_, rfl⟩
  have hNo : Hid ((zr && (zm && (M.kind == 5 && (M.to == N.id && decide (M.term ≤ N.h.t))))) = false → N' = N ∧ L = []) := fun e => by
    have hp : toldC N M 5 = false := by unfold toldC; rw [hzr, hzm]; exact e
    rw [← hN', ← hL]
    exact told_not hp
  have hYes : Hid ((zr && (zm && (M.kind == 5 && (M.to == N.id && decide (M.term ≤ N.h.t))))) = true →
      (M.term < N.h.t → N' = N ∧ L = [fitM N.id M.fr N.h.t false la]) ∧ (N.h.t ≤ M.term → N.role = 2 → N' = N ∧ L = []) ∧
      (N.h.t ≤ M.term → ¬ N.role = 2 → M.index ≤ N.commit → N' = followN N M.fr d ∧ L = [fitM N.id M.fr N.h.t true N.commit]) ∧
      (N.h.t ≤ M.term → ¬ N.role = 2 → N.commit < M.index → zh = false → N' = followN N M.fr d ∧ L = [fitM N.id M.fr N.h.t false la]) ∧
      (N.h.t ≤ M.term → ¬ N.role = 2 → N.commit < M.index → zh = true → N' = ⟨N.id, ⟨N.h.t, N.h.v, AJ, M.s, M.vs⟩, 0, M.fr, min (max d 0) 1048576, M.index, [], []⟩ ∧ L = [fitM N.id M.fr N.h.t true M.index])) := fun e => by
    have hp : toldC N M 5 = true := by unfold toldC; rw [hzr, hzm]; exact e
    rw [← hN', ← hL, ← hla, ← hzh, ← hAJ]
    exact inst_say hp
  rw [hzr, hzm] at hA
  rw [hzh] at hB
  rw [hN', hL]
  have hAL : AJ.rs.length ≤ N.h.l.rs.length := by rw [← hAJ]; exact adopt_lenK _ _ _
  have hAD := fun (w : World) (h0 : B ≤ w.heap.size) (k1 : Recs w B a.R.A a.R.n N.h.l.rs) => Adopt_any N.h.l M.index M.lterm a.R.A a.R.n a.R.c w h0 (by have := hN.rb; omega) hN.rc k1
  rw [hAJ] at hAD
  unfold instH at hzh
  rw [hAJ] at hzh
  replace hzr := hid_mk hzr
  replace hzm := hid_mk hzm
  have hWR := fun (R V : Slc) (w : World) (k1 : R.n ≤ 140737488355328) (k2 : V.n ≤ 140737488355328) (k3 : Recs w B R.A R.n AJ.rs) (k4 : Ints w B V.A V.n M.vs) (k5 : Tab w) => WRight_any ⟨N.h.t, N.h.v, AJ, M.s, M.vs⟩ R V w k1 k2 k3 k4 k5
  rw [hzh] at hWR
  replace hzh := hid_mk hzh
  replace hla := hid_mk hla
  replace hAJ := hid_mk hAJ
  clear hN' hL
  have hER := ERight_any N a
  have hEM := EMay_any M b
  have hN0 := hN
  have hM0 := hMs
  obtain ⟨hr, hrc, hrb, hi, hvc, hvb, _, _, _, _, _, _, _⟩ := hN
  obtain ⟨_, _, _, hui, huc, hub, hus⟩ := hMs
  obtain ⟨id, ⟨t, v, ⟨base, bt, rs⟩, s, vs⟩, role, lead, timer, commit, got, ps⟩ := N
  obtain ⟨⟨RA, n, Rc⟩, ⟨VA, m, Vc⟩, ⟨GA, gn, Gc⟩, ⟨PA, pn, Pc⟩⟩ := a
  obtain ⟨kind, fr, mto, mt, ok, index, lterm, mrs, mcommit, ms, mvs⟩ := M
  obtain ⟨la3, lb3, lrs⟩ := AJ
  obtain ⟨⟨QA, qn, Qc⟩, ⟨UA, un, Uc⟩⟩ := b
  unfold nodeV at hER
  unfold msgV at hEM
  dsimp only at hr hrc hrb hi hvc hvb hui huc hub hus hNo hYes hER hEM hsh hzh hla hAJ hAL hAD hWR hA hB
  replace hA := hid_mk hA
  replace hB := hid_mk hB
  have hnn : n ≤ 4398046511104 := by omega
  have hX := hid_mk (((Blk.new w 30 #[.int .i64 id, .int .i64 t, .int .i64 v, .int .i64 base, .int .i64 bt, .slice RA n Rc, .string s, .slice VA m Vc, .int .i64 role, .int .i64 lead, .int .i64 timer, .int .i64 commit, .slice GA gn Gc, .slice PA pn Pc]).alloc (.cells #[.int .i64 kind, .int .i64 fr, .int .i64 mto, .int .i64 mt, .bool ok, .int .i64 index, .int .i64 lterm, .slice QA qn Qc, .int .i64 mcommit, .string ms, .slice UA un Uc] 32)).alloc (.cells #[.int .i64 0, .int .i64 0, .int .i64 0, .int .i64 0, .int .i64 0, .slice none 0 0, .string ⟨#[]⟩, .slice none 0 0, .int .i64 0, .int .i64 0, .int .i64 0, .int .i64 0, .slice none 0 0, .slice none 0 0] 30))
  have hM : Hid (Blk (((w.alloc (.cells #[.int .i64 id, .int .i64 t, .int .i64 v, .int .i64 base, .int .i64 bt, .slice RA n Rc, .string s, .slice VA m Vc, .int .i64 role, .int .i64 lead, .int .i64 timer, .int .i64 commit, .slice GA gn Gc, .slice PA pn Pc] 30)).alloc (.cells #[.int .i64 kind, .int .i64 fr, .int .i64 mto, .int .i64 mt, .bool ok, .int .i64 index, .int .i64 lterm, .slice QA qn Qc, .int .i64 mcommit, .string ms, .slice UA un Uc] 32)).alloc (.cells #[.int .i64 0, .int .i64 0, .int .i64 0, .int .i64 0, .int .i64 0, .slice none 0 0, .string ⟨#[]⟩, .slice none 0 0, .int .i64 0, .int .i64 0, .int .i64 0, .int .i64 0, .slice none 0 0, .slice none 0 0] 30)) (w.heap.size + 1) 32 #[.int .i64 kind, .int .i64 fr, .int .i64 mto, .int .i64 mt, .bool ok, .int .i64 index, .int .i64 lterm, .slice QA qn Qc, .int .i64 mcommit, .string ms, .slice UA un Uc]) := (Blk.new_ (by simp)).alloc _
  have hY : Hid (Blk (((w.alloc (.cells #[.int .i64 id, .int .i64 t, .int .i64 v, .int .i64 base, .int .i64 bt, .slice RA n Rc, .string s, .slice VA m Vc, .int .i64 role, .int .i64 lead, .int .i64 timer, .int .i64 commit, .slice GA gn Gc, .slice PA pn Pc] 30)).alloc (.cells #[.int .i64 kind, .int .i64 fr, .int .i64 mto, .int .i64 mt, .bool ok, .int .i64 index, .int .i64 lterm, .slice QA qn Qc, .int .i64 mcommit, .string ms, .slice UA un Uc] 32)).alloc (.cells #[.int .i64 0, .int .i64 0, .int .i64 0, .int .i64 0, .int .i64 0, .slice none 0 0, .string ⟨#[]⟩, .slice none 0 0, .int .i64 0, .int .i64 0, .int .i64 0, .int .i64 0, .slice none 0 0, .slice none 0 0] 30)) (w.heap.size + 1 + 1) 30 #[.int .i64 0, .int .i64 0, .int .i64 0, .int .i64 0, .int .i64 0, .slice none 0 0, .string ⟨#[]⟩, .slice none 0 0, .int .i64 0, .int .i64 0, .int .i64 0, .int .i64 0, .slice none 0 0, .slice none 0 0]) := Blk.new_ (by simp)
  have hBy : B ≤ w.heap.size + 1 + 1 := by omega
  show Calls Tryz.prog 17 #[.agg #[.int .i64 id, .int .i64 t, .int .i64 v, .int .i64 base, .int .i64 bt, .slice RA n Rc, .string s, .slice VA m Vc, .int .i64 role, .int .i64 lead, .int .i64 timer, .int .i64 commit, .slice GA gn Gc, .slice PA pn Pc], .agg #[.int .i64 kind, .int .i64 fr, .int .i64 mto, .int .i64 mt, .bool ok, .int .i64 index, .int .i64 lterm, .slice QA qn Qc, .int .i64 mcommit, .string ms, .slice UA un Uc], .int .i64 d] w _
  refine calls_of_wpQ Tryz.func17 rfl ?_
  intro Q hQ
  simp only [Tryz.ntmps17, List.size_toArray, List.length_cons, List.length_nil, Nat.reduceAdd, Nat.reduceSub, Array.replicate_succ, Array.replicate_zero, List.push_toArray, List.append_toArray, List.nil_append, List.cons_append]
  go_wp2_with fail
  refine (hER _ (B := B) (hN0.to (by go_grown)) (ht.to (by go_grown))).mono ?_
  rw [hzr.out]
  rintro e w1 ⟨rfl, hb1⟩
  have q1 := (after (w := w) hb1 (by go_grown)).1
  replace hX := hid_mk (hX.out.keep (after hb1 (by go_grown)).1)
  replace hY := hid_mk (hY.out.keep (after hb1 (by go_grown)).1)
  replace hM := hid_mk (hM.out.keep (after hb1 (by go_grown)).1)
  clear hb1
  obtain ⟨xl, x0, x1, x2, x3, x4, x5, x6, x7, x8, x9, x10, x11, x12, x13, xf0, xf1, xf2, xf3, xf4, xf5, xf6, xf7, xf8, xf9, xf10, xf11, xf12, xf13⟩ := blk14f hX.out
  obtain ⟨yl, y0, y1, y2, y3, y4, y5, y6, y7, y8, y9, y10, y11, y12, y13, yf0, yf1, yf2, yf3, yf4, yf5, yf6, yf7, yf8, yf9, yf10, yf11, yf12, yf13⟩ := blk14f hY.out
  obtain ⟨ml, m0, m1, m2, m3, m4, m5, m6, m7, m8, m9, m10⟩ := blk11v hM.out
  cases zr
  case false =>
    exact absurd hA.out.1 (by decide)
  go_wp2_with fail
  clear xl x0 x1 x2 x3 x4 x5 x6 x7 x8 x9 x10 x11 x12 x13 xf0 xf1 xf2 xf3 xf4 xf5 xf6 xf7 xf8 xf9 xf10 xf11 xf12 xf13 yl y0 y1 y2 y3 y4 y5 y6 y7 y8 y9 y10 y11 y12 y13 yf0 yf1 yf2 yf3 yf4 yf5 yf6 yf7 yf8 yf9 yf10 yf11 yf12 yf13 ml m0 m1 m2 m3 m4 m5 m6 m7 m8 m9 m10
  refine (hEM _ (B := B) (hM0.to (by go_grown))).mono ?_
  rw [hzm.out]
  rintro e w2 ⟨rfl, hb1⟩
  have q2 := (after (w := w) hb1 (by go_grown)).1
  replace hX := hid_mk (hX.out.keep (after hb1 (by go_grown)).1)
  replace hY := hid_mk (hY.out.keep (after hb1 (by go_grown)).1)
  replace hM := hid_mk (hM.out.keep (after hb1 (by go_grown)).1)
  clear hb1
  obtain ⟨xl, x0, x1, x2, x3, x4, x5, x6, x7, x8, x9, x10, x11, x12, x13, xf0, xf1, xf2, xf3, xf4, xf5, xf6, xf7, xf8, xf9, xf10, xf11, xf12, xf13⟩ := blk14f hX.out
  obtain ⟨yl, y0, y1, y2, y3, y4, y5, y6, y7, y8, y9, y10, y11, y12, y13, yf0, yf1, yf2, yf3, yf4, yf5, yf6, yf7, yf8, yf9, yf10, yf11, yf12, yf13⟩ := blk14f hY.out
  obtain ⟨ml, m0, m1, m2, m3, m4, m5, m6, m7, m8, m9, m10⟩ := blk11v hM.out
  cases zm
  case false =>
    exact absurd hA.out.2.1 (by decide)
  by_cases k1 : kind = 5
  case neg =>
    have k1' : (kind == 5) = false := by simpa using k1
    have k1b : (kind != 5) = true := by simpa using k1
    have k1n := hid_mk k1'
    replace k1 := hid_mk k1
    exact absurd hA.out.2.2.1 k1.out
  have k1' : (kind == 5) = true := by simpa using k1
  have k1b : (kind != 5) = false := by simpa using k1
  replace k1 := hid_mk k1
  by_cases k2 : mto = id
  case neg =>
    have k2' : (mto == id) = false := by simpa using k2
    have k2b : (mto != id) = true := by simpa using k2
    have k2n := hid_mk k2'
    replace k2 := hid_mk k2
    exact absurd hA.out.2.2.2.1 k2.out
  have k2' : (mto == id) = true := by simpa using k2
  have k2b : (mto != id) = false := by simpa using k2
  replace k2 := hid_mk k2
  by_cases k3 : mt ≤ t
  case neg =>
    have k3n := hid_mk (show decide (mt ≤ t) = false by simpa using k3)
    have k3' : t < mt := by omega
    replace k3 := hid_mk k3
    exact absurd hA.out.2.2.2.2.1 k3.out
  have k3n := hid_mk (show decide (mt ≤ t) = true by simpa using k3)
  have k3' : ¬ t < mt := by omega
  obtain ⟨hyA, hyB, hyC, hyD, hyE⟩ := hYes.out (by rw [k1.out, k2.out, k3n.out]; simp)
  replace hyA := hid_mk hyA
  replace hyB := hid_mk hyB
  replace hyC := hid_mk hyC
  replace hyD := hid_mk hyD
  replace hyE := hid_mk hyE
  clear hYes hNo hER hEM
  go_wp2_with fail
  clear xl x0 x1 x2 x3 x4 x5 x6 x7 x8 x9 x10 x11 x12 x13 xf0 xf1 xf2 xf3 xf4 xf5 xf6 xf7 xf8 xf9 xf10 xf11 xf12 xf13 yl y0 y1 y2 y3 y4 y5 y6 y7 y8 y9 y10 y11 y12 y13 yf0 yf1 yf2 yf3 yf4 yf5 yf6 yf7 yf8 yf9 yf10 yf11 yf12 yf13 ml m0 m1 m2 m3 m4 m5 m6 m7 m8 m9 m10
  refine (Last_any ⟨base, bt, rs⟩ RA n Rc _ (B := B) (by omega) (hr.to (by go_grown))).mono ?_
  obtain ⟨lt, hlt⟩ : ∃ x, (termJ ⟨base, bt, rs⟩ (lastJ ⟨base, bt, rs⟩)).getD 0 = x := ⟨_, rfl⟩
  rw [if_pos (hsh.out (by first | rfl | trivial)), if_pos (hsh.out (by first | rfl | trivial)), hlt, hla.out]
  replace hlt := hid_mk hlt
  rintro e w3 ⟨rfl, hb1⟩
  have q3 := (after (w := w) hb1 (by go_grown)).1
  replace hX := hid_mk (hX.out.keep (after hb1 (by go_grown)).1)
  replace hY := hid_mk (hY.out.keep (after hb1 (by go_grown)).1)
  replace hM := hid_mk (hM.out.keep (after hb1 (by go_grown)).1)
  clear hb1
  by_cases g1 : mt < t
  case pos =>
    exact absurd hA.out.2.2.2.2.2.1 (by omega)
  have g1' : decide (mt < t) = false := by simpa using g1
  replace g1 : t ≤ mt := by omega
  replace g1 := hid_mk g1
  obtain ⟨xl, x0, x1, x2, x3, x4, x5, x6, x7, x8, x9, x10, x11, x12, x13, xf0, xf1, xf2, xf3, xf4, xf5, xf6, xf7, xf8, xf9, xf10, xf11, xf12, xf13⟩ := blk14f hX.out
  obtain ⟨yl, y0, y1, y2, y3, y4, y5, y6, y7, y8, y9, y10, y11, y12, y13, yf0, yf1, yf2, yf3, yf4, yf5, yf6, yf7, yf8, yf9, yf10, yf11, yf12, yf13⟩ := blk14f hY.out
  obtain ⟨ml, m0, m1, m2, m3, m4, m5, m6, m7, m8, m9, m10⟩ := blk11v hM.out
  by_cases g2 : role = 2
  case pos =>
    have g2' : (role == 2) = true := by simpa using g2
    replace hyB := hid_mk (hyB.out g1.out g2)
    replace g2 := hid_mk g2
    exact absurd g2.out hA.out.2.2.2.2.2.2
  have g2' : (role == 2) = false := by simpa using g2
  replace g2 := hid_mk g2
  go_upto_region 9 with fail
  clear xl x0 x1 x2 x3 x4 x5 x6 x7 x8 x9 x10 x11 x12 x13 xf0 xf1 xf2 xf3 xf4 xf5 xf6 xf7 xf8 xf9 xf10 xf11 xf12 xf13 yl y0 y1 y2 y3 y4 y5 y6 y7 y8 y9 y10 y11 y12 y13 yf0 yf1 yf2 yf3 yf4 yf5 yf6 yf7 yf8 yf9 yf10 yf11 yf12 yf13 ml m0 m1 m2 m3 m4 m5 m6 m7 m8 m9 m10
  refine wp_region_T' (fun w' => w'.cell? ⟨w.heap.size + 1, 1, none⟩ = some (.int .i64 fr)) (fun j => decide (j < 15)) 15 (by kernel_rfl) (by kernel_rfl) (by exact (hM.out.cell 1)) (fun hS0 => ?_)
  replace hX := hid_mk hX.out.drew
  replace hY := hid_mk hY.out.drew
  replace hM := hid_mk hM.out.drew
  have qd : Below w.heap.size w w3.drew := by go_grown
  obtain ⟨wd, hwd⟩ : ∃ x, w3.drew = x := ⟨_, rfl⟩
  rw [hwd] at hS0 hX hY hM qd ⊢
  clear hwd q3
  refine wpAnyT_take (i := 0) rfl (by kernel_rfl) (by kernel_rfl) (by kernel_rfl) rfl (by kernel_rfl) (fun _ _ _ h => h) (by kernel_rfl) (fun w' hS => (by skip; go_simp; try with_reducible rfl)) hS0 ?_
  simp only [Act.put]
  refine wpAnyT_take (i := 1) rfl (by kernel_rfl) (by kernel_rfl) (by kernel_rfl) rfl (by kernel_rfl) (fun _ _ _ h => h) (by kernel_rfl) (fun w' hS => (by skip; go_simp; try with_reducible rfl)) hS0 ?_
  simp only [Act.put]
  refine wpAnyT_take (i := 2) rfl (by kernel_rfl) (by kernel_rfl) (by kernel_rfl) rfl (by kernel_rfl) (fun _ _ _ h => h) (by kernel_rfl) (fun w' hS => (by skip; go_simp; try with_reducible rfl)) hS0 ?_
  simp only [Act.put]
  refine wpAnyT_take (i := 3) rfl (by kernel_rfl) (by kernel_rfl) (by kernel_rfl) rfl (by kernel_rfl) (fun _ _ _ h => h) (by kernel_rfl) (fun w' hS => (by skip; go_simp; try with_reducible rfl)) hS0 ?_
  simp only [Act.put]
  refine wpAnyT_take (i := 4) rfl (by kernel_rfl) (by kernel_rfl) (by kernel_rfl) rfl (by kernel_rfl) (fun _ _ _ h => h) (by kernel_rfl) (fun w' hS => (by skip; go_simp; try with_reducible rfl)) hS0 ?_
  simp only [Act.put]
  refine wpAnyT_take (i := 5) rfl (by kernel_rfl) (by kernel_rfl) (by kernel_rfl) rfl (by kernel_rfl) (fun _ _ _ h => h) (by kernel_rfl) (fun w' hS => (by skip; go_simp; try with_reducible rfl)) hS0 ?_
  simp only [Act.put]
  have mc0 := hX.out.cell 8
  change _ = some (.int .i64 role : Value) at mc0
  have mf0 := hX.out.frozen 8
  have mlt := hX.out.lt
  refine wpAnyT_one (i := 6) (by kernel_rfl) rfl (fun K hK => ?_)
  go_simp
  clear mc0 mf0 mlt
  have hYn := (hY.out.far (p := ⟨w.heap.size, 8, none⟩) (by dsimp only; omega) (.int .i64 0))
  have hMn := (hM.out.far (p := ⟨w.heap.size, 8, none⟩) (by dsimp only; omega) (.int .i64 0))
  have hXn : Blk (wd.setCell ⟨w.heap.size, 8, none⟩ (.int .i64 0)) (w.heap.size) 30 #[.int .i64 id, .int .i64 t, .int .i64 v, .int .i64 base, .int .i64 bt, .slice RA n Rc, .string s, .slice VA m Vc, .int .i64 0, .int .i64 lead, .int .i64 timer, .int .i64 commit, .slice GA gn Gc, .slice PA pn Pc] := (hX.out.set_ 8 (.int .i64 0))
  have qf0 := (qd.setCell (p := ⟨w.heap.size, 8, none⟩) (by dsimp only; omega) (.int .i64 0))
  obtain ⟨wf0, hwn⟩ : ∃ x, (wd.setCell ⟨w.heap.size, 8, none⟩ (.int .i64 0)) = x := ⟨_, rfl⟩
  rw [hwn] at hYn hMn hXn qf0 ⊢
  clear hwn  hY hM hX
  have hY := hid_mk hYn
  have hM := hid_mk hMn
  have hX := hid_mk hXn
  clear hYn hMn hXn
  refine hK.out _ _ (fun _ => (hM.out.cell 1)) ?_
  clear hK K
  try simp only [Act.put]
  refine wpAnyT_take (i := 7) rfl (by kernel_rfl) (by kernel_rfl) (by kernel_rfl) rfl (by kernel_rfl) (fun _ _ _ h => h) (by kernel_rfl) (fun w' hS => (by skip; go_simp; try with_reducible rfl)) (hM.out.cell 1) ?_
  simp only [Act.put]
  have mc0 := hX.out.cell 12
  change _ = some (.slice GA gn Gc : Value) at mc0
  have mf0 := hX.out.frozen 12
  have mlt := hX.out.lt
  refine wpAnyT_one (i := 8) (by kernel_rfl) rfl (fun K hK => ?_)
  go_simp
  clear mc0 mf0 mlt
  have hYn := (hY.out.far (p := ⟨w.heap.size, 12, none⟩) (by dsimp only; omega) (.slice none 0 0))
  have hMn := (hM.out.far (p := ⟨w.heap.size, 12, none⟩) (by dsimp only; omega) (.slice none 0 0))
  have hXn : Blk (wf0.setCell ⟨w.heap.size, 12, none⟩ (.slice none 0 0)) (w.heap.size) 30 #[.int .i64 id, .int .i64 t, .int .i64 v, .int .i64 base, .int .i64 bt, .slice RA n Rc, .string s, .slice VA m Vc, .int .i64 0, .int .i64 lead, .int .i64 timer, .int .i64 commit, .slice none 0 0, .slice PA pn Pc] := (hX.out.set_ 12 (.slice none 0 0))
  have qf1 := (qf0.setCell (p := ⟨w.heap.size, 12, none⟩) (by dsimp only; omega) (.slice none 0 0))
  obtain ⟨wf1, hwn⟩ : ∃ x, (wf0.setCell ⟨w.heap.size, 12, none⟩ (.slice none 0 0)) = x := ⟨_, rfl⟩
  rw [hwn] at hYn hMn hXn qf1 ⊢
  clear hwn qf0 hY hM hX
  have hY := hid_mk hYn
  have hM := hid_mk hMn
  have hX := hid_mk hXn
  clear hYn hMn hXn
  refine hK.out _ _ (fun _ => (hM.out.cell 1)) ?_
  clear hK K
  try simp only [Act.put]
  refine wpAnyT_take (i := 9) rfl (by kernel_rfl) (by kernel_rfl) (by kernel_rfl) rfl (by kernel_rfl) (fun _ _ _ h => h) (by kernel_rfl) (fun w' hS => (by skip; go_simp; try with_reducible rfl)) (hM.out.cell 1) ?_
  simp only [Act.put]
  have mc0 := hX.out.cell 13
  change _ = some (.slice PA pn Pc : Value) at mc0
  have mf0 := hX.out.frozen 13
  have mlt := hX.out.lt
  refine wpAnyT_one (i := 10) (by kernel_rfl) rfl (fun K hK => ?_)
  go_simp
  clear mc0 mf0 mlt
  have hYn := (hY.out.far (p := ⟨w.heap.size, 13, none⟩) (by dsimp only; omega) (.slice none 0 0))
  have hMn := (hM.out.far (p := ⟨w.heap.size, 13, none⟩) (by dsimp only; omega) (.slice none 0 0))
  have hXn : Blk (wf1.setCell ⟨w.heap.size, 13, none⟩ (.slice none 0 0)) (w.heap.size) 30 #[.int .i64 id, .int .i64 t, .int .i64 v, .int .i64 base, .int .i64 bt, .slice RA n Rc, .string s, .slice VA m Vc, .int .i64 0, .int .i64 lead, .int .i64 timer, .int .i64 commit, .slice none 0 0, .slice none 0 0] := (hX.out.set_ 13 (.slice none 0 0))
  have qf2 := (qf1.setCell (p := ⟨w.heap.size, 13, none⟩) (by dsimp only; omega) (.slice none 0 0))
  obtain ⟨wf2, hwn⟩ : ∃ x, (wf1.setCell ⟨w.heap.size, 13, none⟩ (.slice none 0 0)) = x := ⟨_, rfl⟩
  rw [hwn] at hYn hMn hXn qf2 ⊢
  clear hwn qf1 hY hM hX
  have hY := hid_mk hYn
  have hM := hid_mk hMn
  have hX := hid_mk hXn
  clear hYn hMn hXn
  refine hK.out _ _ (fun _ => (hM.out.cell 1)) ?_
  clear hK K
  try simp only [Act.put]
  refine wpAnyT_take (i := 11) rfl (by kernel_rfl) (by kernel_rfl) (by kernel_rfl) rfl (by kernel_rfl) (fun _ _ _ h => h) (by kernel_rfl) (fun w' hS => (by skip; go_simp; try with_reducible rfl)) (hM.out.cell 1) ?_
  simp only [Act.put]
  have mc0 := hX.out.cell 9
  change _ = some (.int .i64 lead : Value) at mc0
  have mf0 := hX.out.frozen 9
  have mlt := hX.out.lt
  refine wpAnyT_one (i := 12) (by kernel_rfl) rfl (fun K hK => ?_)
  go_simp
  clear mc0 mf0 mlt
  have hYn := (hY.out.far (p := ⟨w.heap.size, 9, none⟩) (by dsimp only; omega) (.int .i64 fr))
  have hMn := (hM.out.far (p := ⟨w.heap.size, 9, none⟩) (by dsimp only; omega) (.int .i64 fr))
  have hXn : Blk (wf2.setCell ⟨w.heap.size, 9, none⟩ (.int .i64 fr)) (w.heap.size) 30 #[.int .i64 id, .int .i64 t, .int .i64 v, .int .i64 base, .int .i64 bt, .slice RA n Rc, .string s, .slice VA m Vc, .int .i64 0, .int .i64 fr, .int .i64 timer, .int .i64 commit, .slice none 0 0, .slice none 0 0] := (hX.out.set_ 9 (.int .i64 fr))
  have qf3 := (qf2.setCell (p := ⟨w.heap.size, 9, none⟩) (by dsimp only; omega) (.int .i64 fr))
  obtain ⟨wf3, hwn⟩ : ∃ x, (wf2.setCell ⟨w.heap.size, 9, none⟩ (.int .i64 fr)) = x := ⟨_, rfl⟩
  rw [hwn] at hYn hMn hXn qf3 ⊢
  clear hwn qf2 hY hM hX
  have hY := hid_mk hYn
  have hM := hid_mk hMn
  have hX := hid_mk hXn
  clear hYn hMn hXn
  refine hK.out _ _ (fun _ => (hM.out.cell 1)) ?_
  clear hK K
  try simp only [Act.put]
  refine wpAnyT_take (i := 13) rfl (by kernel_rfl) (by kernel_rfl) (by kernel_rfl) rfl (by kernel_rfl) (fun _ _ _ h => h) (by kernel_rfl) (fun w' hS => (by skip; go_simp; try with_reducible rfl)) (hM.out.cell 1) ?_
  simp only [Act.put]
  have mc0 := hX.out.cell 10
  change _ = some (.int .i64 timer : Value) at mc0
  have mf0 := hX.out.frozen 10
  have mlt := hX.out.lt
  refine wpAnyT_one (i := 14) (by kernel_rfl) rfl (fun K hK => ?_)
  go_simp
  clear mc0 mf0 mlt
  have hYn := (hY.out.far (p := ⟨w.heap.size, 10, none⟩) (by dsimp only; omega) (.int .i64 (min (max d 0) 1048576)))
  have hMn := (hM.out.far (p := ⟨w.heap.size, 10, none⟩) (by dsimp only; omega) (.int .i64 (min (max d 0) 1048576)))
  have hXn : Blk (wf3.setCell ⟨w.heap.size, 10, none⟩ (.int .i64 (min (max d 0) 1048576))) (w.heap.size) 30 #[.int .i64 id, .int .i64 t, .int .i64 v, .int .i64 base, .int .i64 bt, .slice RA n Rc, .string s, .slice VA m Vc, .int .i64 0, .int .i64 fr, .int .i64 (min (max d 0) 1048576), .int .i64 commit, .slice none 0 0, .slice none 0 0] := (hX.out.set_ 10 (.int .i64 (min (max d 0) 1048576)))
  have qf4 := (qf3.setCell (p := ⟨w.heap.size, 10, none⟩) (by dsimp only; omega) (.int .i64 (min (max d 0) 1048576)))
  obtain ⟨wf4, hwn⟩ : ∃ x, (wf3.setCell ⟨w.heap.size, 10, none⟩ (.int .i64 (min (max d 0) 1048576))) = x := ⟨_, rfl⟩
  rw [hwn] at hYn hMn hXn qf4 ⊢
  clear hwn qf3 hY hM hX
  have hY := hid_mk hYn
  have hM := hid_mk hMn
  have hX := hid_mk hXn
  clear hYn hMn hXn
  refine hK.out _ _ (fun _ => (hM.out.cell 1)) ?_
  clear hK K
  try simp only [Act.put]
  refine wpAnyT_done (by kernel_rfl) ?_ _
  obtain ⟨w4, hw4⟩ : ∃ x, wf4 = x := ⟨_, rfl⟩
  rw [hw4] at hX hY hM qf4 ⊢
  have q4 := qf4
  clear hw4 qf4
  obtain ⟨xl, x0, x1, x2, x3, x4, x5, x6, x7, x8, x9, x10, x11, x12, x13, xf0, xf1, xf2, xf3, xf4, xf5, xf6, xf7, xf8, xf9, xf10, xf11, xf12, xf13⟩ := blk14f hX.out
  obtain ⟨yl, y0, y1, y2, y3, y4, y5, y6, y7, y8, y9, y10, y11, y12, y13, yf0, yf1, yf2, yf3, yf4, yf5, yf6, yf7, yf8, yf9, yf10, yf11, yf12, yf13⟩ := blk14f hY.out
  obtain ⟨ml, m0, m1, m2, m3, m4, m5, m6, m7, m8, m9, m10⟩ := blk11v hM.out
  by_cases g3 : index ≤ commit
  case pos =>
    have g3' : decide (index ≤ commit) = true := by simpa using g3
    have hfin := hid_mk (hyC.out g1.out g2.out g3)
    go_upto_region 11 with fail
    clear xl x0 x1 x2 x3 x4 x5 x6 x7 x8 x9 x10 x11 x12 x13 xf0 xf1 xf2 xf3 xf4 xf5 xf6 xf7 xf8 xf9 xf10 xf11 xf12 xf13 yl y0 y1 y2 y3 y4 y5 y6 y7 y8 y9 y10 y11 y12 y13 yf0 yf1 yf2 yf3 yf4 yf5 yf6 yf7 yf8 yf9 yf10 yf11 yf12 yf13 ml m0 m1 m2 m3 m4 m5 m6 m7 m8 m9 m10
    refine wp_region_T' (fun w' => w'.cell? ⟨w.heap.size, 0, none⟩ = some (.int .i64 id) ∧ w'.cell? ⟨w.heap.size, 1, none⟩ = some (.int .i64 t) ∧ w'.cell? ⟨w.heap.size, 2, none⟩ = some (.int .i64 v) ∧ w'.cell? ⟨w.heap.size, 3, none⟩ = some (.int .i64 base) ∧ w'.cell? ⟨w.heap.size, 4, none⟩ = some (.int .i64 bt) ∧ w'.cell? ⟨w.heap.size, 5, none⟩ = some (.slice RA n Rc) ∧ w'.cell? ⟨w.heap.size, 6, none⟩ = some (.string s) ∧ w'.cell? ⟨w.heap.size, 7, none⟩ = some (.slice VA m Vc) ∧ w'.cell? ⟨w.heap.size, 8, none⟩ = some (.int .i64 0) ∧ w'.cell? ⟨w.heap.size, 9, none⟩ = some (.int .i64 fr) ∧ w'.cell? ⟨w.heap.size, 10, none⟩ = some (.int .i64 (min (max d 0) 1048576)) ∧ w'.cell? ⟨w.heap.size, 11, none⟩ = some (.int .i64 commit) ∧ w'.cell? ⟨w.heap.size, 12, none⟩ = some (.slice none 0 0) ∧ w'.cell? ⟨w.heap.size, 13, none⟩ = some (.slice none 0 0)) (fun j => decide (j < 7)) 7 (by kernel_rfl) (by kernel_rfl) (by exact ⟨hX.out.cell 0, hX.out.cell 1, hX.out.cell 2, hX.out.cell 3, hX.out.cell 4, hX.out.cell 5, hX.out.cell 6, hX.out.cell 7, hX.out.cell 8, hX.out.cell 9, hX.out.cell 10, hX.out.cell 11, hX.out.cell 12, hX.out.cell 13⟩) (fun hS0 => ?_)
    replace hX := hid_mk hX.out.drew
    replace hY := hid_mk hY.out.drew
    replace hM := hid_mk hM.out.drew
    have qd : Below w.heap.size w w4.drew := by go_grown
    obtain ⟨wd, hwd⟩ : ∃ x, w4.drew = x := ⟨_, rfl⟩
    rw [hwd] at hS0 hX hY hM qd ⊢
    clear hwd
    have zd := qd.size
    refine wpAnyT_take (i := 0) rfl (by kernel_rfl) (by kernel_rfl) (by kernel_rfl) rfl (by kernel_rfl) (fun _ _ _ h => h) (by kernel_rfl) (fun w' hS => (by obtain ⟨s0, s1, s2, s3, s4, s5, s6, s7, s8, s9, s10, s11, s12, s13⟩ := hS; go_simp; try with_reducible rfl)) hS0 ?_
    simp only [Act.put]
    refine wpAnyT_take (i := 1) rfl (by kernel_rfl) (by kernel_rfl) (by kernel_rfl) rfl (by kernel_rfl) (fun _ _ _ h => h) (by kernel_rfl) (fun w' hS => (by obtain ⟨s0, s1, s2, s3, s4, s5, s6, s7, s8, s9, s10, s11, s12, s13⟩ := hS; go_simp; try with_reducible rfl)) hS0 ?_
    simp only [Act.put]
    refine wpAnyT_take (i := 2) rfl (by kernel_rfl) (by kernel_rfl) (by kernel_rfl) rfl (by kernel_rfl) (fun _ _ _ h => h) (by kernel_rfl) (fun w' hS => (by obtain ⟨s0, s1, s2, s3, s4, s5, s6, s7, s8, s9, s10, s11, s12, s13⟩ := hS; go_simp; try with_reducible rfl)) hS0 ?_
    simp only [Act.put]
    refine wpAnyT_take (i := 3) rfl (by kernel_rfl) (by kernel_rfl) (by kernel_rfl) rfl (by kernel_rfl) (fun _ _ _ h => h) (by kernel_rfl) (fun w' hS => (by obtain ⟨s0, s1, s2, s3, s4, s5, s6, s7, s8, s9, s10, s11, s12, s13⟩ := hS; go_simp; try with_reducible rfl)) hS0 ?_
    simp only [Act.put]
    refine wpAnyT_one (i := 4) (by kernel_rfl) rfl (fun K hK => ?_)
    go_simp
    refine (AnsI_any true commit id fr t w.heap.size (w.heap.size + 1) _ (hX.out.cell 0) (hX.out.cell 1) (hM.out.cell 1)).mono ?_
    rintro e wS ⟨gS, rfl, kS, hb1⟩
    have qS := (after (w := w) hb1 qd).1
    have hL1 : Hid (Mgs wS 0 (some ⟨gS, 0, none⟩) 1 ([fitM id fr t true commit].map fun M => (M, nilMA))) := hid_mk (mgs_one (M := fitM id fr t true commit) kS rfl rfl rfl)
    replace hX := hid_mk (hX.out.keep hb1)
    replace hY := hid_mk (hY.out.keep hb1)
    replace hM := hid_mk (hM.out.keep hb1)
    clear hb1 kS
    refine hK.out _ _ (fun _ => ⟨hX.out.cell 0, hX.out.cell 1, hX.out.cell 2, hX.out.cell 3, hX.out.cell 4, hX.out.cell 5, hX.out.cell 6, hX.out.cell 7, hX.out.cell 8, hX.out.cell 9, hX.out.cell 10, hX.out.cell 11, hX.out.cell 12, hX.out.cell 13⟩) ?_
    clear hK K
    try simp only [Act.put]
    obtain ⟨yl, y0, y1, y2, y3, y4, y5, y6, y7, y8, y9, y10, y11, y12, y13, yf0, yf1, yf2, yf3, yf4, yf5, yf6, yf7, yf8, yf9, yf10, yf11, yf12, yf13⟩ := blk14f hY.out
    refine wpAnyT_one (i := 5) (by kernel_rfl) rfl (fun K hK => ?_)
    go_simp
    clear yl y0 y1 y2 y3 y4 y5 y6 y7 y8 y9 y10 y11 y12 y13 yf0 yf1 yf2 yf3 yf4 yf5 yf6 yf7 yf8 yf9 yf10 yf11 yf12 yf13
    replace hL1 := hid_mk (mgs_set14K hL1.out hY.out (by decide) (by intro M hM; rw [List.mem_singleton] at hM; subst hM; exact ⟨rfl, rfl, rfl⟩) (.int .i64 id) (.int .i64 t) (.int .i64 v) (.int .i64 base) (.int .i64 bt) (.slice RA n Rc) (.string s) (.slice VA m Vc) (.int .i64 0) (.int .i64 fr) (.int .i64 (min (max d 0) 1048576)) (.int .i64 commit) (.slice none 0 0) (.slice none 0 0))
    replace hX := hid_mk (set14_farS hX.out (by omega : w.heap.size ≠ w.heap.size + 1 + 1) (.int .i64 id) (.int .i64 t) (.int .i64 v) (.int .i64 base) (.int .i64 bt) (.slice RA n Rc) (.string s) (.slice VA m Vc) (.int .i64 0) (.int .i64 fr) (.int .i64 (min (max d 0) 1048576)) (.int .i64 commit) (.slice none 0 0) (.slice none 0 0))
    have qz := set14_below (.int .i64 id) (.int .i64 t) (.int .i64 v) (.int .i64 base) (.int .i64 bt) (.slice RA n Rc) (.string s) (.slice VA m Vc) (.int .i64 0) (.int .i64 fr) (.int .i64 (min (max d 0) 1048576)) (.int .i64 commit) (.slice none 0 0) (.slice none 0 0) qS (by omega : w.heap.size ≤ w.heap.size + 1 + 1)
    have hYo := hY
    replace hY := hid_mk (set14_blk hY.out (.int .i64 id) (.int .i64 t) (.int .i64 v) (.int .i64 base) (.int .i64 bt) (.slice RA n Rc) (.string s) (.slice VA m Vc) (.int .i64 0) (.int .i64 fr) (.int .i64 (min (max d 0) 1048576)) (.int .i64 commit) (.slice none 0 0) (.slice none 0 0))
    obtain ⟨wz, hwz⟩ : ∃ x, set14 wS (w.heap.size + 1 + 1) (.int .i64 id) (.int .i64 t) (.int .i64 v) (.int .i64 base) (.int .i64 bt) (.slice RA n Rc) (.string s) (.slice VA m Vc) (.int .i64 0) (.int .i64 fr) (.int .i64 (min (max d 0) 1048576)) (.int .i64 commit) (.slice none 0 0) (.slice none 0 0) = x := ⟨_, rfl⟩
    rw [hwz] at hX hY hL1 qz
    unfold set14 at hwz
    rw [hwz]
    clear hwz hYo
    refine hK.out _ _ (fun _ => ⟨hX.out.cell 0, hX.out.cell 1, hX.out.cell 2, hX.out.cell 3, hX.out.cell 4, hX.out.cell 5, hX.out.cell 6, hX.out.cell 7, hX.out.cell 8, hX.out.cell 9, hX.out.cell 10, hX.out.cell 11, hX.out.cell 12, hX.out.cell 13⟩) ?_
    clear hK K
    try simp only [Act.put]
    refine wpAnyT_one (i := 6) (by kernel_rfl) rfl (fun K hK => ?_)
    go_simp
    refine hK.out _ _ (fun _ => ⟨hX.out.cell 0, hX.out.cell 1, hX.out.cell 2, hX.out.cell 3, hX.out.cell 4, hX.out.cell 5, hX.out.cell 6, hX.out.cell 7, hX.out.cell 8, hX.out.cell 9, hX.out.cell 10, hX.out.cell 11, hX.out.cell 12, hX.out.cell 13⟩) ?_
    clear hK K
    try simp only [Act.put]
    refine wpAnyT_done (by kernel_rfl) ?_ _
    obtain ⟨_, y0, y1, y2, y3, y4, y5, y6, y7, y8, y9, y10, y11, y12, y13⟩ := blk14c hY.out
    go_wp2
    refine ends_ret hQ (v := .tuple #[.agg #[.int .i64 id, .int .i64 t, .int .i64 v, .int .i64 base, .int .i64 bt, .slice RA n Rc, .string s, .slice VA m Vc, .int .i64 0, .int .i64 fr, .int .i64 (min (max d 0) 1048576), .int .i64 commit, .slice none 0 0, .slice none 0 0], .slice (some ⟨gS, 0, none⟩) 1 1]) (by simp [results, Tryz.results17, go_sem, y0, y1, y2, y3, y4, y5, y6, y7, y8, y9, y10, y11, y12, y13]) rfl ?_
    exact ⟨⟨⟨RA, n, Rc⟩, ⟨VA, m, Vc⟩, ⟨none, 0, 0⟩, ⟨none, 0, 0⟩⟩, some ⟨gS, 0, none⟩, 1, 1, by rw [hfin.out.1]; rfl, by (rw [hfin.out.1]; exact ⟨hN0.recs.to qz, hN0.rc, hN0.rb, hN0.vs.to qz, hN0.vc, hN0.vb, hN0.sb, Reads.none_, Nat.le_refl _, by dsimp only; omega, Reads.none_, Nat.le_refl _, by dsimp only; omega⟩), by rw [hfin.out.2]; exact hL1.out, Nat.le_refl _, qz⟩
  have g3' : decide (index ≤ commit) = false := by simpa using g3
  replace g3 : commit < index := by omega
  replace g3 := hid_mk g3
  obtain ⟨gH, hgH⟩ : ∃ g, w4.heap.size = g := ⟨_, rfl⟩
  have zH : w.heap.size + 1 + 1 < gH := by rw [← hgH]; exact hY.out.lt
  have hH : Hid (Blk (w4.alloc (.cells #[.int .i64 t, .int .i64 v, .int .i64 base, .int .i64 bt, .slice RA n Rc, .string s, .slice VA m Vc] 27)) gH 27 #[.int .i64 t, .int .i64 v, .int .i64 base, .int .i64 bt, .slice RA n Rc, .string s, .slice VA m Vc]) := by rw [← hgH]; exact Blk.new _ _ _
  replace hX := hid_mk (hX.out.alloc (.cells #[.int .i64 t, .int .i64 v, .int .i64 base, .int .i64 bt, .slice RA n Rc, .string s, .slice VA m Vc] 27))
  replace hY := hid_mk (hY.out.alloc (.cells #[.int .i64 t, .int .i64 v, .int .i64 base, .int .i64 bt, .slice RA n Rc, .string s, .slice VA m Vc] 27))
  replace hM := hid_mk (hM.out.alloc (.cells #[.int .i64 t, .int .i64 v, .int .i64 base, .int .i64 bt, .slice RA n Rc, .string s, .slice VA m Vc] 27))
  have qH : Below w.heap.size w (w4.alloc (.cells #[.int .i64 t, .int .i64 v, .int .i64 base, .int .i64 bt, .slice RA n Rc, .string s, .slice VA m Vc] 27)) := by go_grown
  obtain ⟨wH, hwH⟩ : ∃ x, w4.alloc (.cells #[.int .i64 t, .int .i64 v, .int .i64 base, .int .i64 bt, .slice RA n Rc, .string s, .slice VA m Vc] 27) = x := ⟨_, rfl⟩
  rw [hwH] at hX hY hM hH qH
  replace hwH := hid_mk hwH
  replace hgH := hid_mk hgH
  go_upto_region 13 with fail
  rw [hwH.out, hgH.out]
  clear xl x0 x1 x2 x3 x4 x5 x6 x7 x8 x9 x10 x11 x12 x13 xf0 xf1 xf2 xf3 xf4 xf5 xf6 xf7 xf8 xf9 xf10 xf11 xf12 xf13 yl y0 y1 y2 y3 y4 y5 y6 y7 y8 y9 y10 y11 y12 y13 yf0 yf1 yf2 yf3 yf4 yf5 yf6 yf7 yf8 yf9 yf10 yf11 yf12 yf13 ml m0 m1 m2 m3 m4 m5 m6 m7 m8 m9 m10
  clear hwH hgH q4
  refine wp_region_T' (fun w' => w'.cell? ⟨w.heap.size + 1, 5, none⟩ = some (.int .i64 index) ∧ w'.cell? ⟨w.heap.size + 1, 6, none⟩ = some (.int .i64 lterm) ∧ w'.cell? ⟨w.heap.size + 1, 9, none⟩ = some (.string ms) ∧ w'.cell? ⟨w.heap.size + 1, 10, none⟩ = some (.slice UA un Uc)) (fun j => decide (j < 18)) 18 (by kernel_rfl) (by kernel_rfl) (by exact ⟨hM.out.cell 5, hM.out.cell 6, hM.out.cell 9, hM.out.cell 10⟩) (fun hS0 => ?_)
  replace hX := hid_mk hX.out.drew
  replace hY := hid_mk hY.out.drew
  replace hM := hid_mk hM.out.drew
  replace hH := hid_mk hH.out.drew
  have qd : Below w.heap.size w wH.drew := by go_grown
  obtain ⟨wd, hwd⟩ : ∃ x, wH.drew = x := ⟨_, rfl⟩
  rw [hwd] at hS0 hX hY hM hH qd ⊢
  clear hwd qH
  have zd := qd.size
  refine wpAnyT_take (i := 2) rfl (by kernel_rfl) (by kernel_rfl) (by kernel_rfl) rfl (by kernel_rfl) (fun _ _ _ h => h) (by kernel_rfl) (fun w' hS => (by obtain ⟨s0, s1, s2, s3⟩ := hS; go_simp; try with_reducible rfl)) hS0 ?_
  simp only [Act.put]
  refine wpAnyT_take (i := 3) rfl (by kernel_rfl) (by kernel_rfl) (by kernel_rfl) rfl (by kernel_rfl) (fun _ _ _ h => h) (by kernel_rfl) (fun w' hS => (by obtain ⟨s0, s1, s2, s3⟩ := hS; go_simp; try with_reducible rfl)) hS0 ?_
  simp only [Act.put]
  refine wpAnyT_take (i := 4) rfl (by kernel_rfl) (by kernel_rfl) (by kernel_rfl) rfl (by kernel_rfl) (fun _ _ _ h => h) (by kernel_rfl) (fun w' hS => (by obtain ⟨s0, s1, s2, s3⟩ := hS; go_simp; try with_reducible rfl)) hS0 ?_
  simp only [Act.put]
  refine wpAnyT_take (i := 5) rfl (by kernel_rfl) (by kernel_rfl) (by kernel_rfl) rfl (by kernel_rfl) (fun _ _ _ h => h) (by kernel_rfl) (fun w' hS => (by obtain ⟨s0, s1, s2, s3⟩ := hS; go_simp; try with_reducible rfl)) hS0 ?_
  simp only [Act.put]
  refine wpAnyT_take (i := 7) rfl (by kernel_rfl) (by kernel_rfl) (by kernel_rfl) rfl (by kernel_rfl) (fun _ _ _ h => h) (by kernel_rfl) (fun w' hS => (by obtain ⟨s0, s1, s2, s3⟩ := hS; go_simp; try with_reducible rfl)) hS0 ?_
  simp only [Act.put]
  refine wpAnyT_take (i := 8) rfl (by kernel_rfl) (by kernel_rfl) (by kernel_rfl) rfl (by kernel_rfl) (fun _ _ _ h => h) (by kernel_rfl) (fun w' hS => (by obtain ⟨s0, s1, s2, s3⟩ := hS; go_simp; try with_reducible rfl)) hS0 ?_
  simp only [Act.put]
  refine wpAnyT_take (i := 9) rfl (by kernel_rfl) (by kernel_rfl) (by kernel_rfl) rfl (by kernel_rfl) (fun _ _ _ h => h) (by kernel_rfl) (fun w' hS => (by obtain ⟨s0, s1, s2, s3⟩ := hS; go_simp; try with_reducible rfl)) hS0 ?_
  simp only [Act.put]
  refine wpAnyT_take (i := 10) rfl (by kernel_rfl) (by kernel_rfl) (by kernel_rfl) rfl (by kernel_rfl) (fun _ _ _ h => h) (by kernel_rfl) (fun w' hS => (by obtain ⟨s0, s1, s2, s3⟩ := hS; go_simp; try with_reducible rfl)) hS0 ?_
  simp only [Act.put]
  refine wpAnyT_one (i := 0) (by kernel_rfl) rfl (fun K hK => ?_)
  go_simp
  refine hK.out _ _ (fun _ => ⟨hM.out.cell 5, hM.out.cell 6, hM.out.cell 9, hM.out.cell 10⟩) ?_
  clear hK K
  try simp only [Act.put]
  have h2 := hH.out.cell 2
  have h3 := hH.out.cell 3
  have h4 := hH.out.cell 4
  change _ = some (Value.int .i64 base) at h2
  change _ = some (Value.int .i64 bt) at h3
  change _ = some (Value.slice RA n Rc) at h4
  have hlt := hH.out.lt
  refine wpAnyT_one (i := 1) (by kernel_rfl) rfl (fun K hK => ?_)
  go_simp
  clear h2 h3 h4 hlt
  refine hK.out _ _ (fun _ => ⟨hM.out.cell 5, hM.out.cell 6, hM.out.cell 9, hM.out.cell 10⟩) ?_
  clear hK K
  try simp only [Act.put]
  refine wpAnyT_one (i := 6) (by kernel_rfl) rfl (fun K hK => ?_)
  go_simp
  refine (hAD _ (by omega) (hr.to qd)).mono ?_
  rintro e wA ⟨LA, ln, Lc, rfl, hLr, hlc, _, hb1⟩
  unfold logV
  dsimp only at hLr ⊢
  have hln : ln ≤ n := by have := hLr.len; have := hr.len; omega
  have qA := (after (w := w) hb1 qd).1
  have zA := qA.size
  replace hX := hid_mk (hX.out.keep hb1)
  replace hY := hid_mk (hY.out.keep hb1)
  replace hM := hid_mk (hM.out.keep hb1)
  replace hH := hid_mk (hH.out.keep hb1)
  replace hLr := hid_mk hLr
  clear hb1 qd zd
  refine hK.out _ _ (fun _ => ⟨hM.out.cell 5, hM.out.cell 6, hM.out.cell 9, hM.out.cell 10⟩) ?_
  clear hK K
  try simp only [Act.put]
  refine wpAnyT_take (i := 12) rfl (by kernel_rfl) (by kernel_rfl) (by kernel_rfl) rfl (by kernel_rfl) (fun _ _ _ h => h) (by kernel_rfl) (fun w' hS => (by obtain ⟨s0, s1, s2, s3⟩ := hS; go_simp; try with_reducible rfl)) ⟨hM.out.cell 5, hM.out.cell 6, hM.out.cell 9, hM.out.cell 10⟩ ?_
  simp only [Act.put]
  refine wpAnyT_one (i := 11) (by kernel_rfl) rfl (fun K hK => ?_)
  go_simp
  refine (CloneC_any UA un Uc mvs _ B (by omega) (hui.to qA)).mono ?_
  rintro e wC ⟨WA, Wc, rfl, hWi, hwc, hb1⟩
  have qC := (after (w := w) hb1 qA).1
  have zC := qC.size
  replace hX := hid_mk (hX.out.keep hb1)
  replace hY := hid_mk (hY.out.keep hb1)
  replace hM := hid_mk (hM.out.keep hb1)
  replace hH := hid_mk (hH.out.keep hb1)
  replace hLr := hid_mk (hLr.out.to hb1)
  replace hWi := hid_mk hWi
  clear hb1 qA zA
  refine hK.out _ _ (fun _ => ⟨hM.out.cell 5, hM.out.cell 6, hM.out.cell 9, hM.out.cell 10⟩) ?_
  clear hK K
  try simp only [Act.put]
  have mc0 := hH.out.cell 2
  change _ = some (.int .i64 base : Value) at mc0
  have mf0 := hH.out.frozen 2
  have mc1 := hH.out.cell 3
  change _ = some (.int .i64 bt : Value) at mc1
  have mf1 := hH.out.frozen 3
  have mc2 := hH.out.cell 4
  change _ = some (.slice RA n Rc : Value) at mc2
  have mf2 := hH.out.frozen 4
  have mlt := hH.out.lt
  refine wpAnyT_one (i := 13) (by kernel_rfl) rfl (fun K hK => ?_)
  go_simp
  clear mc0 mf0 mc1 mf1 mc2 mf2 mlt
  have hXn := (((hX.out.far (p := ⟨gH, 2, none⟩) (by dsimp only; omega) (.int .i64 la3)).far (p := ⟨gH, 3, none⟩) (by dsimp only; omega) (.int .i64 lb3)).far (p := ⟨gH, 4, none⟩) (by dsimp only; omega) (.slice LA ln Lc))
  have hYn := (((hY.out.far (p := ⟨gH, 2, none⟩) (by dsimp only; omega) (.int .i64 la3)).far (p := ⟨gH, 3, none⟩) (by dsimp only; omega) (.int .i64 lb3)).far (p := ⟨gH, 4, none⟩) (by dsimp only; omega) (.slice LA ln Lc))
  have hMn := (((hM.out.far (p := ⟨gH, 2, none⟩) (by dsimp only; omega) (.int .i64 la3)).far (p := ⟨gH, 3, none⟩) (by dsimp only; omega) (.int .i64 lb3)).far (p := ⟨gH, 4, none⟩) (by dsimp only; omega) (.slice LA ln Lc))
  have hLrn : Recs (((wC.setCell ⟨gH, 2, none⟩ (.int .i64 la3)).setCell ⟨gH, 3, none⟩ (.int .i64 lb3)).setCell ⟨gH, 4, none⟩ (.slice LA ln Lc)) B LA ln lrs := (Reads.far (Reads.far (Reads.far hLr.out hH.out (by omega) (by decide) 2 (.int .i64 la3)) (hH.out.set_ 2 (.int .i64 la3)) (by omega) (by decide) 3 (.int .i64 lb3)) ((hH.out.set_ 2 (.int .i64 la3)).set_ 3 (.int .i64 lb3)) (by omega) (by decide) 4 (.slice LA ln Lc))
  have hWin : Ints (((wC.setCell ⟨gH, 2, none⟩ (.int .i64 la3)).setCell ⟨gH, 3, none⟩ (.int .i64 lb3)).setCell ⟨gH, 4, none⟩ (.slice LA ln Lc)) 0 WA un mvs := (Reads.far (Reads.far (Reads.far hWi.out hH.out (Nat.zero_le _) (by decide) 2 (.int .i64 la3)) (hH.out.set_ 2 (.int .i64 la3)) (Nat.zero_le _) (by decide) 3 (.int .i64 lb3)) ((hH.out.set_ 2 (.int .i64 la3)).set_ 3 (.int .i64 lb3)) (Nat.zero_le _) (by decide) 4 (.slice LA ln Lc))
  have hHn : Blk (((wC.setCell ⟨gH, 2, none⟩ (.int .i64 la3)).setCell ⟨gH, 3, none⟩ (.int .i64 lb3)).setCell ⟨gH, 4, none⟩ (.slice LA ln Lc)) (gH) 27 #[.int .i64 t, .int .i64 v, .int .i64 la3, .int .i64 lb3, .slice LA ln Lc, .string s, .slice VA m Vc] := (((hH.out.set_ 2 (.int .i64 la3)).set_ 3 (.int .i64 lb3)).set_ 4 (.slice LA ln Lc))
  have qg0 := (((qC.setCell (p := ⟨gH, 2, none⟩) (by dsimp only; omega) (.int .i64 la3)).setCell (p := ⟨gH, 3, none⟩) (by dsimp only; omega) (.int .i64 lb3)).setCell (p := ⟨gH, 4, none⟩) (by dsimp only; omega) (.slice LA ln Lc))
  obtain ⟨wg0, hwn⟩ : ∃ x, (((wC.setCell ⟨gH, 2, none⟩ (.int .i64 la3)).setCell ⟨gH, 3, none⟩ (.int .i64 lb3)).setCell ⟨gH, 4, none⟩ (.slice LA ln Lc)) = x := ⟨_, rfl⟩
  rw [hwn] at hXn hYn hMn hLrn hWin hHn qg0 ⊢
  clear hwn  hX hY hM hLr hWi hH
  have hX := hid_mk hXn
  have hY := hid_mk hYn
  have hM := hid_mk hMn
  have hLr := hid_mk hLrn
  have hWi := hid_mk hWin
  have hH := hid_mk hHn
  clear hXn hYn hMn hLrn hWin hHn
  refine hK.out _ _ (fun _ => ⟨hM.out.cell 5, hM.out.cell 6, hM.out.cell 9, hM.out.cell 10⟩) ?_
  clear hK K
  try simp only [Act.put]
  refine wpAnyT_take (i := 14) rfl (by kernel_rfl) (by kernel_rfl) (by kernel_rfl) rfl (by kernel_rfl) (fun _ _ _ h => h) (by kernel_rfl) (fun w' hS => (by obtain ⟨s0, s1, s2, s3⟩ := hS; go_simp; try with_reducible rfl)) ⟨hM.out.cell 5, hM.out.cell 6, hM.out.cell 9, hM.out.cell 10⟩ ?_
  simp only [Act.put]
  have mc0 := hH.out.cell 5
  change _ = some (.string s : Value) at mc0
  have mf0 := hH.out.frozen 5
  have mlt := hH.out.lt
  refine wpAnyT_one (i := 15) (by kernel_rfl) rfl (fun K hK => ?_)
  go_simp
  clear mc0 mf0 mlt
  have hXn := (hX.out.far (p := ⟨gH, 5, none⟩) (by dsimp only; omega) (.string ms))
  have hYn := (hY.out.far (p := ⟨gH, 5, none⟩) (by dsimp only; omega) (.string ms))
  have hMn := (hM.out.far (p := ⟨gH, 5, none⟩) (by dsimp only; omega) (.string ms))
  have hLrn : Recs (wg0.setCell ⟨gH, 5, none⟩ (.string ms)) B LA ln lrs := (Reads.far hLr.out hH.out (by omega) (by decide) 5 (.string ms))
  have hWin : Ints (wg0.setCell ⟨gH, 5, none⟩ (.string ms)) 0 WA un mvs := (Reads.far hWi.out hH.out (Nat.zero_le _) (by decide) 5 (.string ms))
  have hHn : Blk (wg0.setCell ⟨gH, 5, none⟩ (.string ms)) (gH) 27 #[.int .i64 t, .int .i64 v, .int .i64 la3, .int .i64 lb3, .slice LA ln Lc, .string ms, .slice VA m Vc] := (hH.out.set_ 5 (.string ms))
  have qg1 := (qg0.setCell (p := ⟨gH, 5, none⟩) (by dsimp only; omega) (.string ms))
  obtain ⟨wg1, hwn⟩ : ∃ x, (wg0.setCell ⟨gH, 5, none⟩ (.string ms)) = x := ⟨_, rfl⟩
  rw [hwn] at hXn hYn hMn hLrn hWin hHn qg1 ⊢
  clear hwn qg0 hX hY hM hLr hWi hH
  have hX := hid_mk hXn
  have hY := hid_mk hYn
  have hM := hid_mk hMn
  have hLr := hid_mk hLrn
  have hWi := hid_mk hWin
  have hH := hid_mk hHn
  clear hXn hYn hMn hLrn hWin hHn
  refine hK.out _ _ (fun _ => ⟨hM.out.cell 5, hM.out.cell 6, hM.out.cell 9, hM.out.cell 10⟩) ?_
  clear hK K
  try simp only [Act.put]
  refine wpAnyT_take (i := 16) rfl (by kernel_rfl) (by kernel_rfl) (by kernel_rfl) rfl (by kernel_rfl) (fun _ _ _ h => h) (by kernel_rfl) (fun w' hS => (by obtain ⟨s0, s1, s2, s3⟩ := hS; go_simp; try with_reducible rfl)) ⟨hM.out.cell 5, hM.out.cell 6, hM.out.cell 9, hM.out.cell 10⟩ ?_
  simp only [Act.put]
  have mc0 := hH.out.cell 6
  change _ = some (.slice VA m Vc : Value) at mc0
  have mf0 := hH.out.frozen 6
  have mlt := hH.out.lt
  refine wpAnyT_one (i := 17) (by kernel_rfl) rfl (fun K hK => ?_)
  go_simp
  clear mc0 mf0 mlt
  have hXn := (hX.out.far (p := ⟨gH, 6, none⟩) (by dsimp only; omega) (.slice WA un Wc))
  have hYn := (hY.out.far (p := ⟨gH, 6, none⟩) (by dsimp only; omega) (.slice WA un Wc))
  have hMn := (hM.out.far (p := ⟨gH, 6, none⟩) (by dsimp only; omega) (.slice WA un Wc))
  have hLrn : Recs (wg1.setCell ⟨gH, 6, none⟩ (.slice WA un Wc)) B LA ln lrs := (Reads.far hLr.out hH.out (by omega) (by decide) 6 (.slice WA un Wc))
  have hWin : Ints (wg1.setCell ⟨gH, 6, none⟩ (.slice WA un Wc)) 0 WA un mvs := (Reads.far hWi.out hH.out (Nat.zero_le _) (by decide) 6 (.slice WA un Wc))
  have hHn : Blk (wg1.setCell ⟨gH, 6, none⟩ (.slice WA un Wc)) (gH) 27 #[.int .i64 t, .int .i64 v, .int .i64 la3, .int .i64 lb3, .slice LA ln Lc, .string ms, .slice WA un Wc] := (hH.out.set_ 6 (.slice WA un Wc))
  have qg2 := (qg1.setCell (p := ⟨gH, 6, none⟩) (by dsimp only; omega) (.slice WA un Wc))
  obtain ⟨wg2, hwn⟩ : ∃ x, (wg1.setCell ⟨gH, 6, none⟩ (.slice WA un Wc)) = x := ⟨_, rfl⟩
  rw [hwn] at hXn hYn hMn hLrn hWin hHn qg2 ⊢
  clear hwn qg1 hX hY hM hLr hWi hH
  have hX := hid_mk hXn
  have hY := hid_mk hYn
  have hM := hid_mk hMn
  have hLr := hid_mk hLrn
  have hWi := hid_mk hWin
  have hH := hid_mk hHn
  clear hXn hYn hMn hLrn hWin hHn
  refine hK.out _ _ (fun _ => ⟨hM.out.cell 5, hM.out.cell 6, hM.out.cell 9, hM.out.cell 10⟩) ?_
  clear hK K
  try simp only [Act.put]
  refine wpAnyT_done (by kernel_rfl) ?_ _
  obtain ⟨w5, hw5⟩ : ∃ x, wg2 = x := ⟨_, rfl⟩
  rw [hw5] at hX hY hM hH hLr hWi qg2 ⊢
  have q5 := qg2
  clear hw5 qg2
  obtain ⟨hl, h0, h1, h2, h3, h4, h5, h6, hf0, hf1, hf2, hf3, hf4, hf5, hf6⟩ := blk7f hH.out
  go_wp2_with fail
  clear hl h0 h1 h2 h3 h4 h5 h6 hf0 hf1 hf2 hf3 hf4 hf5 hf6
  refine (hWR ⟨LA, ln, Lc⟩ ⟨WA, un, Wc⟩ _ (by dsimp only; omega) (by dsimp only; omega) (hLr.out.to (by go_grown)) ((hWi.out.more (Nat.zero_le _)).to (by go_grown)) ((ht.to q5).to (by go_grown))).mono ?_
  rintro e w6 ⟨rfl, hb1⟩
  have q6 := (after (w := w) hb1 q5).1
  have z6 := q6.size
  replace hX := hid_mk (hX.out.keep hb1)
  replace hY := hid_mk (hY.out.keep hb1)
  replace hM := hid_mk (hM.out.keep hb1)
  replace hH := hid_mk (hH.out.keep hb1)
  replace hLr := hid_mk (hLr.out.to hb1)
  replace hWi := hid_mk (hWi.out.to hb1)
  clear hb1 q5
  obtain ⟨xl, x0, x1, x2, x3, x4, x5, x6, x7, x8, x9, x10, x11, x12, x13, xf0, xf1, xf2, xf3, xf4, xf5, xf6, xf7, xf8, xf9, xf10, xf11, xf12, xf13⟩ := blk14f hX.out
  obtain ⟨yl, y0, y1, y2, y3, y4, y5, y6, y7, y8, y9, y10, y11, y12, y13, yf0, yf1, yf2, yf3, yf4, yf5, yf6, yf7, yf8, yf9, yf10, yf11, yf12, yf13⟩ := blk14f hY.out
  obtain ⟨ml, m0, m1, m2, m3, m4, m5, m6, m7, m8, m9, m10⟩ := blk11v hM.out
  cases zh
  case false =>
    have hfin := hid_mk (hyD.out g1.out g2.out g3.out (by first | rfl | trivial))
    go_upto_region 15 with fail
    clear xl x0 x1 x2 x3 x4 x5 x6 x7 x8 x9 x10 x11 x12 x13 xf0 xf1 xf2 xf3 xf4 xf5 xf6 xf7 xf8 xf9 xf10 xf11 xf12 xf13 yl y0 y1 y2 y3 y4 y5 y6 y7 y8 y9 y10 y11 y12 y13 yf0 yf1 yf2 yf3 yf4 yf5 yf6 yf7 yf8 yf9 yf10 yf11 yf12 yf13 ml m0 m1 m2 m3 m4 m5 m6 m7 m8 m9 m10
    refine wp_region_T' (fun w' => w'.cell? ⟨w.heap.size, 0, none⟩ = some (.int .i64 id) ∧ w'.cell? ⟨w.heap.size, 1, none⟩ = some (.int .i64 t) ∧ w'.cell? ⟨w.heap.size, 2, none⟩ = some (.int .i64 v) ∧ w'.cell? ⟨w.heap.size, 3, none⟩ = some (.int .i64 base) ∧ w'.cell? ⟨w.heap.size, 4, none⟩ = some (.int .i64 bt) ∧ w'.cell? ⟨w.heap.size, 5, none⟩ = some (.slice RA n Rc) ∧ w'.cell? ⟨w.heap.size, 6, none⟩ = some (.string s) ∧ w'.cell? ⟨w.heap.size, 7, none⟩ = some (.slice VA m Vc) ∧ w'.cell? ⟨w.heap.size, 8, none⟩ = some (.int .i64 0) ∧ w'.cell? ⟨w.heap.size, 9, none⟩ = some (.int .i64 fr) ∧ w'.cell? ⟨w.heap.size, 10, none⟩ = some (.int .i64 (min (max d 0) 1048576)) ∧ w'.cell? ⟨w.heap.size, 11, none⟩ = some (.int .i64 commit) ∧ w'.cell? ⟨w.heap.size, 12, none⟩ = some (.slice none 0 0) ∧ w'.cell? ⟨w.heap.size, 13, none⟩ = some (.slice none 0 0)) (fun j => decide (j < 6)) 6 (by kernel_rfl) (by kernel_rfl) (by exact ⟨hX.out.cell 0, hX.out.cell 1, hX.out.cell 2, hX.out.cell 3, hX.out.cell 4, hX.out.cell 5, hX.out.cell 6, hX.out.cell 7, hX.out.cell 8, hX.out.cell 9, hX.out.cell 10, hX.out.cell 11, hX.out.cell 12, hX.out.cell 13⟩) (fun hS0 => ?_)
    replace hX := hid_mk hX.out.drew
    replace hY := hid_mk hY.out.drew
    replace hM := hid_mk hM.out.drew
    have qd : Below w.heap.size w w6.drew := by go_grown
    obtain ⟨wd, hwd⟩ : ∃ x, w6.drew = x := ⟨_, rfl⟩
    rw [hwd] at hS0 hX hY hM qd ⊢
    clear hwd
    have zd := qd.size
    refine wpAnyT_take (i := 0) rfl (by kernel_rfl) (by kernel_rfl) (by kernel_rfl) rfl (by kernel_rfl) (fun _ _ _ h => h) (by kernel_rfl) (fun w' hS => (by obtain ⟨s0, s1, s2, s3, s4, s5, s6, s7, s8, s9, s10, s11, s12, s13⟩ := hS; go_simp; try with_reducible rfl)) hS0 ?_
    simp only [Act.put]
    refine wpAnyT_take (i := 1) rfl (by kernel_rfl) (by kernel_rfl) (by kernel_rfl) rfl (by kernel_rfl) (fun _ _ _ h => h) (by kernel_rfl) (fun w' hS => (by obtain ⟨s0, s1, s2, s3, s4, s5, s6, s7, s8, s9, s10, s11, s12, s13⟩ := hS; go_simp; try with_reducible rfl)) hS0 ?_
    simp only [Act.put]
    refine wpAnyT_take (i := 2) rfl (by kernel_rfl) (by kernel_rfl) (by kernel_rfl) rfl (by kernel_rfl) (fun _ _ _ h => h) (by kernel_rfl) (fun w' hS => (by obtain ⟨s0, s1, s2, s3, s4, s5, s6, s7, s8, s9, s10, s11, s12, s13⟩ := hS; go_simp; try with_reducible rfl)) hS0 ?_
    simp only [Act.put]
    refine wpAnyT_one (i := 3) (by kernel_rfl) rfl (fun K hK => ?_)
    go_simp
    refine (AnsI_any false la id fr t w.heap.size (w.heap.size + 1) _ (hX.out.cell 0) (hX.out.cell 1) (hM.out.cell 1)).mono ?_
    rintro e wS ⟨gS, rfl, kS, hb1⟩
    have qS := (after (w := w) hb1 qd).1
    have hL1 : Hid (Mgs wS 0 (some ⟨gS, 0, none⟩) 1 ([fitM id fr t false la].map fun M => (M, nilMA))) := hid_mk (mgs_one (M := fitM id fr t false la) kS rfl rfl rfl)
    replace hX := hid_mk (hX.out.keep hb1)
    replace hY := hid_mk (hY.out.keep hb1)
    replace hM := hid_mk (hM.out.keep hb1)
    clear hb1 kS
    refine hK.out _ _ (fun _ => ⟨hX.out.cell 0, hX.out.cell 1, hX.out.cell 2, hX.out.cell 3, hX.out.cell 4, hX.out.cell 5, hX.out.cell 6, hX.out.cell 7, hX.out.cell 8, hX.out.cell 9, hX.out.cell 10, hX.out.cell 11, hX.out.cell 12, hX.out.cell 13⟩) ?_
    clear hK K
    try simp only [Act.put]
    obtain ⟨yl, y0, y1, y2, y3, y4, y5, y6, y7, y8, y9, y10, y11, y12, y13, yf0, yf1, yf2, yf3, yf4, yf5, yf6, yf7, yf8, yf9, yf10, yf11, yf12, yf13⟩ := blk14f hY.out
    refine wpAnyT_one (i := 4) (by kernel_rfl) rfl (fun K hK => ?_)
    go_simp
    clear yl y0 y1 y2 y3 y4 y5 y6 y7 y8 y9 y10 y11 y12 y13 yf0 yf1 yf2 yf3 yf4 yf5 yf6 yf7 yf8 yf9 yf10 yf11 yf12 yf13
    replace hL1 := hid_mk (mgs_set14K hL1.out hY.out (by decide) (by intro M hM; rw [List.mem_singleton] at hM; subst hM; exact ⟨rfl, rfl, rfl⟩) (.int .i64 id) (.int .i64 t) (.int .i64 v) (.int .i64 base) (.int .i64 bt) (.slice RA n Rc) (.string s) (.slice VA m Vc) (.int .i64 0) (.int .i64 fr) (.int .i64 (min (max d 0) 1048576)) (.int .i64 commit) (.slice none 0 0) (.slice none 0 0))
    replace hX := hid_mk (set14_farS hX.out (by omega : w.heap.size ≠ w.heap.size + 1 + 1) (.int .i64 id) (.int .i64 t) (.int .i64 v) (.int .i64 base) (.int .i64 bt) (.slice RA n Rc) (.string s) (.slice VA m Vc) (.int .i64 0) (.int .i64 fr) (.int .i64 (min (max d 0) 1048576)) (.int .i64 commit) (.slice none 0 0) (.slice none 0 0))
    have qz := set14_below (.int .i64 id) (.int .i64 t) (.int .i64 v) (.int .i64 base) (.int .i64 bt) (.slice RA n Rc) (.string s) (.slice VA m Vc) (.int .i64 0) (.int .i64 fr) (.int .i64 (min (max d 0) 1048576)) (.int .i64 commit) (.slice none 0 0) (.slice none 0 0) qS (by omega : w.heap.size ≤ w.heap.size + 1 + 1)
    have hYo := hY
    replace hY := hid_mk (set14_blk hY.out (.int .i64 id) (.int .i64 t) (.int .i64 v) (.int .i64 base) (.int .i64 bt) (.slice RA n Rc) (.string s) (.slice VA m Vc) (.int .i64 0) (.int .i64 fr) (.int .i64 (min (max d 0) 1048576)) (.int .i64 commit) (.slice none 0 0) (.slice none 0 0))
    obtain ⟨wz, hwz⟩ : ∃ x, set14 wS (w.heap.size + 1 + 1) (.int .i64 id) (.int .i64 t) (.int .i64 v) (.int .i64 base) (.int .i64 bt) (.slice RA n Rc) (.string s) (.slice VA m Vc) (.int .i64 0) (.int .i64 fr) (.int .i64 (min (max d 0) 1048576)) (.int .i64 commit) (.slice none 0 0) (.slice none 0 0) = x := ⟨_, rfl⟩
    rw [hwz] at hX hY hL1 qz
    unfold set14 at hwz
    rw [hwz]
    clear hwz hYo
    refine hK.out _ _ (fun _ => ⟨hX.out.cell 0, hX.out.cell 1, hX.out.cell 2, hX.out.cell 3, hX.out.cell 4, hX.out.cell 5, hX.out.cell 6, hX.out.cell 7, hX.out.cell 8, hX.out.cell 9, hX.out.cell 10, hX.out.cell 11, hX.out.cell 12, hX.out.cell 13⟩) ?_
    clear hK K
    try simp only [Act.put]
    refine wpAnyT_one (i := 5) (by kernel_rfl) rfl (fun K hK => ?_)
    go_simp
    refine hK.out _ _ (fun _ => ⟨hX.out.cell 0, hX.out.cell 1, hX.out.cell 2, hX.out.cell 3, hX.out.cell 4, hX.out.cell 5, hX.out.cell 6, hX.out.cell 7, hX.out.cell 8, hX.out.cell 9, hX.out.cell 10, hX.out.cell 11, hX.out.cell 12, hX.out.cell 13⟩) ?_
    clear hK K
    try simp only [Act.put]
    refine wpAnyT_done (by kernel_rfl) ?_ _
    obtain ⟨_, y0, y1, y2, y3, y4, y5, y6, y7, y8, y9, y10, y11, y12, y13⟩ := blk14c hY.out
    go_wp2
    refine ends_ret hQ (v := .tuple #[.agg #[.int .i64 id, .int .i64 t, .int .i64 v, .int .i64 base, .int .i64 bt, .slice RA n Rc, .string s, .slice VA m Vc, .int .i64 0, .int .i64 fr, .int .i64 (min (max d 0) 1048576), .int .i64 commit, .slice none 0 0, .slice none 0 0], .slice (some ⟨gS, 0, none⟩) 1 1]) (by simp [results, Tryz.results17, go_sem, y0, y1, y2, y3, y4, y5, y6, y7, y8, y9, y10, y11, y12, y13]) rfl ?_
    exact ⟨⟨⟨RA, n, Rc⟩, ⟨VA, m, Vc⟩, ⟨none, 0, 0⟩, ⟨none, 0, 0⟩⟩, some ⟨gS, 0, none⟩, 1, 1, by rw [hfin.out.1]; rfl, by (rw [hfin.out.1]; exact ⟨hN0.recs.to qz, hN0.rc, hN0.rb, hN0.vs.to qz, hN0.vc, hN0.vb, hN0.sb, Reads.none_, Nat.le_refl _, by dsimp only; omega, Reads.none_, Nat.le_refl _, by dsimp only; omega⟩), by rw [hfin.out.2]; exact hL1.out, Nat.le_refl _, qz⟩
  exact absurd (hB.out g3.out) (by decide)
set_option maxRecDepth 100000 in
set_option maxHeartbeats 12800000 in
theorem SInst3_any (N : Nd) (a : NdA) (M : Ms) (b : MsA) (d : Int) (w : World) {B : Nat} (hBw : B ≤ w.heap.size) (hN : NdOk w B N a) (hMs : MsOk w B M b) (ht : Tab w) (hA : rightN N = true ∧ mayM M = true ∧ M.kind = 5 ∧ M.to = N.id ∧ M.term ≤ N.h.t ∧ N.h.t ≤ M.term ∧ ¬ N.role = 2) (hB : N.commit < M.index ∧ rightH (instH N M) = true) :
    Calls Tryz.prog 17 #[nodeV N a, msgV M b, .int .i64 d] w fun e w' => RetNL w B (instN N M d) (instL N M) e w' := by
  have hmf : ∀ (fn : Fn) (first cap : Array Value) (w : World), (Instr.makeFunc fn first cap).run Tryz.prog w = .ok (.func fn first cap) w := fun _ _ _ _ => rfl
  obtain ⟨zr, hzr⟩ : ∃ z, rightN N = z := ⟨_, rfl⟩
  obtain ⟨zm, hzm⟩ : ∃ z, mayM M = z := ⟨_, rfl⟩
  obtain ⟨zh, hzh⟩ : ∃ z, rightH (instH N M) = z := ⟨_, rfl⟩
  obtain ⟨la, hla⟩ : ∃ x, lastJ N.h.l = x := ⟨_, rfl⟩
  obtain ⟨AJ, hAJ⟩ : ∃ x, adoptJ N.h.l M.index M.lterm = x := ⟨_, rfl⟩
  have hsh : Hid (zr = true → rightJ N.h.l = true) := fun e => (right_n (by rw [hzr]; exact e)).1
  obtain ⟨N', hN'⟩ : ∃ z, instN N M d = z := ⟨_, rfl⟩
  obtain ⟨L, hL⟩ : ∃ z, instL N M = z := ⟨_, rfl⟩
  have hNo : Hid ((zr && (zm && (M.kind == 5 && (M.to == N.id && decide (M.term ≤ N.h.t))))) = false → N' = N ∧ L = []) := fun e => by
    have hp : toldC N M 5 = false := by unfold toldC; rw [hzr, hzm]; exact e
    rw [← hN', ← hL]
    exact told_not hp
  have hYes : Hid ((zr && (zm && (M.kind == 5 && (M.to == N.id && decide (M.term ≤ N.h.t))))) = true →
      (M.term < N.h.t → N' = N ∧ L = [fitM N.id M.fr N.h.t false la]) ∧ (N.h.t ≤ M.term → N.role = 2 → N' = N ∧ L = []) ∧
      (N.h.t ≤ M.term → ¬ N.role = 2 → M.index ≤ N.commit → N' = followN N M.fr d ∧ L = [fitM N.id M.fr N.h.t true N.commit]) ∧
      (N.h.t ≤ M.term → ¬ N.role = 2 → N.commit < M.index → zh = false → N' = followN N M.fr d ∧ L = [fitM N.id M.fr N.h.t false la]) ∧
      (N.h.t ≤ M.term → ¬ N.role = 2 → N.commit < M.index → zh = true → N' = ⟨N.id, ⟨N.h.t, N.h.v, AJ, M.s, M.vs⟩, 0, M.fr, min (max d 0) 1048576, M.index, [], []⟩ ∧ L = [fitM N.id M.fr N.h.t true M.index])) := fun e => by
    have hp : toldC N M 5 = true := by unfold toldC; rw [hzr, hzm]; exact e
    rw [← hN', ← hL, ← hla, ← hzh, ← hAJ]
    exact inst_say hp
  rw [hzr, hzm] at hA
  rw [hzh] at hB
  rw [hN', hL]
  have hAL : AJ.rs.length ≤ N.h.l.rs.length := by rw [← hAJ]; exact adopt_lenK _ _ _
  have hAD := fun (w : World) (h0 : B ≤ w.heap.size) (k1 : Recs w B a.R.A a.R.n N.h.l.rs) => Adopt_any N.h.l M.index M.lterm a.R.A a.R.n a.R.c w h0 (by have := hN.rb; omega) hN.rc k1
  rw [hAJ] at hAD
  unfold instH at hzh
  rw [hAJ] at hzh
  replace hzr := hid_mk hzr
  replace hzm := hid_mk hzm
  have hWR := fun (R V : Slc) (w : World) (k1 : R.n ≤ 140737488355328) (k2 : V.n ≤ 140737488355328) (k3 : Recs w B R.A R.n AJ.rs) (k4 : Ints w B V.A V.n M.vs) (k5 : Tab w) => WRight_any ⟨N.h.t, N.h.v, AJ, M.s, M.vs⟩ R V w k1 k2 k3 k4 k5
  rw [hzh] at hWR
  replace hzh := hid_mk hzh
  replace hla := hid_mk hla
  replace hAJ := hid_mk hAJ
  clear hN' hL
  have hER := ERight_any N a
  have hEM := EMay_any M b
  have hN0 := hN
  have hM0 := hMs
  obtain ⟨hr, hrc, hrb, hi, hvc, hvb, _, _, _, _, _, _, _⟩ := hN
  obtain ⟨_, _, _, hui, huc, hub, hus⟩ := hMs
  obtain ⟨id, ⟨t, v, ⟨base, bt, rs⟩, s, vs⟩, role, lead, timer, commit, got, ps⟩ := N
  obtain ⟨⟨RA, n, Rc⟩, ⟨VA, m, Vc⟩, ⟨GA, gn, Gc⟩, ⟨PA, pn, Pc⟩⟩ := a
  obtain ⟨kind, fr, mto, mt, ok, index, lterm, mrs, mcommit, ms, mvs⟩ := M
  obtain ⟨la3, lb3, lrs⟩ := AJ
  obtain ⟨⟨QA, qn, Qc⟩, ⟨UA, un, Uc⟩⟩ := b
  unfold nodeV at hER
  unfold msgV at hEM
  dsimp only at hr hrc hrb hi hvc hvb hui huc hub hus hNo hYes hER hEM hsh hzh hla hAJ hAL hAD hWR hA hB
  replace hA := hid_mk hA
  replace hB := hid_mk hB
  have hnn : n ≤ 4398046511104 := by omega
  have hX := hid_mk (((Blk.new w 30 #[.int .i64 id, .int .i64 t, .int .i64 v, .int .i64 base, .int .i64 bt, .slice RA n Rc, .string s, .slice VA m Vc, .int .i64 role, .int .i64 lead, .int .i64 timer, .int .i64 commit, .slice GA gn Gc, .slice PA pn Pc]).alloc (.cells #[.int .i64 kind, .int .i64 fr, .int .i64 mto, .int .i64 mt, .bool ok, .int .i64 index, .int .i64 lterm, .slice QA qn Qc, .int .i64 mcommit, .string ms, .slice UA un Uc] 32)).alloc (.cells #[.int .i64 0, .int .i64 0, .int .i64 0, .int .i64 0, .int .i64 0, .slice none 0 0, .string ⟨#[]⟩, .slice none 0 0, .int .i64 0, .int .i64 0, .int .i64 0, .int .i64 0, .slice none 0 0, .slice none 0 0] 30))
  have hM : Hid (Blk (((w.alloc (.cells #[.int .i64 id, .int .i64 t, .int .i64 v, .int .i64 base, .int .i64 bt, .slice RA n Rc, .string s, .slice VA m Vc, .int .i64 role, .int .i64 lead, .int .i64 timer, .int .i64 commit, .slice GA gn Gc, .slice PA pn Pc] 30)).alloc (.cells #[.int .i64 kind, .int .i64 fr, .int .i64 mto, .int .i64 mt, .bool ok, .int .i64 index, .int .i64 lterm, .slice QA qn Qc, .int .i64 mcommit, .string ms, .slice UA un Uc] 32)).alloc (.cells #[.int .i64 0, .int .i64 0, .int .i64 0, .int .i64 0, .int .i64 0, .slice none 0 0, .string ⟨#[]⟩, .slice none 0 0, .int .i64 0, .int .i64 0, .int .i64 0, .int .i64 0, .slice none 0 0, .slice none 0 0] 30)) (w.heap.size + 1) 32 #[.int .i64 kind, .int .i64 fr, .int .i64 mto, .int .i64 mt, .bool ok, .int .i64 index, .int .i64 lterm, .slice QA qn Qc, .int .i64 mcommit, .string ms, .slice UA un Uc]) := (Blk.new_ (by simp)).alloc _
  have hY : Hid (Blk (((w.alloc (.cells #[.int .i64 id, .int .i64 t, .int .i64 v, .int .i64 base, .int .i64 bt, .slice RA n Rc, .string s, .slice VA m Vc, .int .i64 role, .int .i64 lead, .int .i64 timer, .int .i64 commit, .slice GA gn Gc, .slice PA pn Pc] 30)).alloc (.cells #[.int .i64 kind, .int .i64 fr, .int .i64 mto, .int .i64 mt, .bool ok, .int .i64 index, .int .i64 lterm, .slice QA qn Qc, .int .i64 mcommit, .string ms, .slice UA un Uc] 32)).alloc (.cells #[.int .i64 0, .int .i64 0, .int .i64 0, .int .i64 0, .int .i64 0, .slice none 0 0, .string ⟨#[]⟩, .slice none 0 0, .int .i64 0, .int .i64 0, .int .i64 0, .int .i64 0, .slice none 0 0, .slice none 0 0] 30)) (w.heap.size + 1 + 1) 30 #[.int .i64 0, .int .i64 0, .int .i64 0, .int .i64 0, .int .i64 0, .slice none 0 0, .string ⟨#[]⟩, .slice none 0 0, .int .i64 0, .int .i64 0, .int .i64 0, .int .i64 0, .slice none 0 0, .slice none 0 0]) := Blk.new_ (by simp)
  have hBy : B ≤ w.heap.size + 1 + 1 := by omega
  show Calls Tryz.prog 17 #[.agg #[.int .i64 id, .int .i64 t, .int .i64 v, .int .i64 base, .int .i64 bt, .slice RA n Rc, .string s, .slice VA m Vc, .int .i64 role, .int .i64 lead, .int .i64 timer, .int .i64 commit, .slice GA gn Gc, .slice PA pn Pc], .agg #[.int .i64 kind, .int .i64 fr, .int .i64 mto, .int .i64 mt, .bool ok, .int .i64 index, .int .i64 lterm, .slice QA qn Qc, .int .i64 mcommit, .string ms, .slice UA un Uc], .int .i64 d] w _
  refine calls_of_wpQ Tryz.func17 rfl ?_
  intro Q hQ
  simp only [Tryz.ntmps17, List.size_toArray, List.length_cons, List.length_nil, Nat.reduceAdd, Nat.reduceSub, Array.replicate_succ, Array.replicate_zero, List.push_toArray, List.append_toArray, List.nil_append, List.cons_append]
  go_wp2_with fail
  refine (hER _ (B := B) (hN0.to (by go_grown)) (ht.to (by go_grown))).mono ?_
  rw [hzr.out]
  rintro e w1 ⟨rfl, hb1⟩
  have q1 := (after (w := w) hb1 (by go_grown)).1
  replace hX := hid_mk (hX.out.keep (after hb1 (by go_grown)).1)
  replace hY := hid_mk (hY.out.keep (after hb1 (by go_grown)).1)
  replace hM := hid_mk (hM.out.keep (after hb1 (by go_grown)).1)
  clear hb1
  obtain ⟨xl, x0, x1, x2, x3, x4, x5, x6, x7, x8, x9, x10, x11, x12, x13, xf0, xf1, xf2, xf3, xf4, xf5, xf6, xf7, xf8, xf9, xf10, xf11, xf12, xf13⟩ := blk14f hX.out
  obtain ⟨yl, y0, y1, y2, y3, y4, y5, y6, y7, y8, y9, y10, y11, y12, y13, yf0, yf1, yf2, yf3, yf4, yf5, yf6, yf7, yf8, yf9, yf10, yf11, yf12, yf13⟩ := blk14f hY.out
  obtain ⟨ml, m0, m1, m2, m3, m4, m5, m6, m7, m8, m9, m10⟩ := blk11v hM.out
  cases zr
  case false =>
    exact absurd hA.out.1 (by decide)
  go_wp2_with fail
  clear xl x0 x1 x2 x3 x4 x5 x6 x7 x8 x9 x10 x11 x12 x13 xf0 xf1 xf2 xf3 xf4 xf5 xf6 xf7 xf8 xf9 xf10 xf11 xf12 xf13 yl y0 y1 y2 y3 y4 y5 y6 y7 y8 y9 y10 y11 y12 y13 yf0 yf1 yf2 yf3 yf4 yf5 yf6 yf7 yf8 yf9 yf10 yf11 yf12 yf13 ml m0 m1 m2 m3 m4 m5 m6 m7 m8 m9 m10
  refine (hEM _ (B := B) (hM0.to (by go_grown))).mono ?_
  rw [hzm.out]
  rintro e w2 ⟨rfl, hb1⟩
  have q2 := (after (w := w) hb1 (by go_grown)).1
  replace hX := hid_mk (hX.out.keep (after hb1 (by go_grown)).1)
  replace hY := hid_mk (hY.out.keep (after hb1 (by go_grown)).1)
  replace hM := hid_mk (hM.out.keep (after hb1 (by go_grown)).1)
  clear hb1
  obtain ⟨xl, x0, x1, x2, x3, x4, x5, x6, x7, x8, x9, x10, x11, x12, x13, xf0, xf1, xf2, xf3, xf4, xf5, xf6, xf7, xf8, xf9, xf10, xf11, xf12, xf13⟩ := blk14f hX.out
  obtain ⟨yl, y0, y1, y2, y3, y4, y5, y6, y7, y8, y9, y10, y11, y12, y13, yf0, yf1, yf2, yf3, yf4, yf5, yf6, yf7, yf8, yf9, yf10, yf11, yf12, yf13⟩ := blk14f hY.out
  obtain ⟨ml, m0, m1, m2, m3, m4, m5, m6, m7, m8, m9, m10⟩ := blk11v hM.out
  cases zm
  case false =>
    exact absurd hA.out.2.1 (by decide)
  by_cases k1 : kind = 5
  case neg =>
    have k1' : (kind == 5) = false := by simpa using k1
    have k1b : (kind != 5) = true := by simpa using k1
    have k1n := hid_mk k1'
    replace k1 := hid_mk k1
    exact absurd hA.out.2.2.1 k1.out
  have k1' : (kind == 5) = true := by simpa using k1
  have k1b : (kind != 5) = false := by simpa using k1
  replace k1 := hid_mk k1
  by_cases k2 : mto = id
  case neg =>
    have k2' : (mto == id) = false := by simpa using k2
    have k2b : (mto != id) = true := by simpa using k2
    have k2n := hid_mk k2'
    replace k2 := hid_mk k2
    exact absurd hA.out.2.2.2.1 k2.out
  have k2' : (mto == id) = true := by simpa using k2
  have k2b : (mto != id) = false := by simpa using k2
  replace k2 := hid_mk k2
  by_cases k3 : mt ≤ t
  case neg =>
    have k3n := hid_mk (show decide (mt ≤ t) = false by simpa using k3)
    have k3' : t < mt := by omega
    replace k3 := hid_mk k3
    exact absurd hA.out.2.2.2.2.1 k3.out
  have k3n := hid_mk (show decide (mt ≤ t) = true by simpa using k3)
  have k3' : ¬ t < mt := by omega
  obtain ⟨hyA, hyB, hyC, hyD, hyE⟩ := hYes.out (by rw [k1.out, k2.out, k3n.out]; simp)
  replace hyA := hid_mk hyA
  replace hyB := hid_mk hyB
  replace hyC := hid_mk hyC
  replace hyD := hid_mk hyD
  replace hyE := hid_mk hyE
  clear hYes hNo hER hEM
  go_wp2_with fail
  clear xl x0 x1 x2 x3 x4 x5 x6 x7 x8 x9 x10 x11 x12 x13 xf0 xf1 xf2 xf3 xf4 xf5 xf6 xf7 xf8 xf9 xf10 xf11 xf12 xf13 yl y0 y1 y2 y3 y4 y5 y6 y7 y8 y9 y10 y11 y12 y13 yf0 yf1 yf2 yf3 yf4 yf5 yf6 yf7 yf8 yf9 yf10 yf11 yf12 yf13 ml m0 m1 m2 m3 m4 m5 m6 m7 m8 m9 m10
  refine (Last_any ⟨base, bt, rs⟩ RA n Rc _ (B := B) (by omega) (hr.to (by go_grown))).mono ?_
  obtain ⟨lt, hlt⟩ : ∃ x, (termJ ⟨base, bt, rs⟩ (lastJ ⟨base, bt, rs⟩)).getD 0 = x := ⟨_, rfl⟩
  rw [if_pos (hsh.out (by first | rfl | trivial)), if_pos (hsh.out (by first | rfl | trivial)), hlt, hla.out]
  replace hlt := hid_mk hlt
  rintro e w3 ⟨rfl, hb1⟩
  have q3 := (after (w := w) hb1 (by go_grown)).1
  replace hX := hid_mk (hX.out.keep (after hb1 (by go_grown)).1)
  replace hY := hid_mk (hY.out.keep (after hb1 (by go_grown)).1)
  replace hM := hid_mk (hM.out.keep (after hb1 (by go_grown)).1)
  clear hb1
  by_cases g1 : mt < t
  case pos =>
    exact absurd hA.out.2.2.2.2.2.1 (by omega)
  have g1' : decide (mt < t) = false := by simpa using g1
  replace g1 : t ≤ mt := by omega
  replace g1 := hid_mk g1
  obtain ⟨xl, x0, x1, x2, x3, x4, x5, x6, x7, x8, x9, x10, x11, x12, x13, xf0, xf1, xf2, xf3, xf4, xf5, xf6, xf7, xf8, xf9, xf10, xf11, xf12, xf13⟩ := blk14f hX.out
  obtain ⟨yl, y0, y1, y2, y3, y4, y5, y6, y7, y8, y9, y10, y11, y12, y13, yf0, yf1, yf2, yf3, yf4, yf5, yf6, yf7, yf8, yf9, yf10, yf11, yf12, yf13⟩ := blk14f hY.out
  obtain ⟨ml, m0, m1, m2, m3, m4, m5, m6, m7, m8, m9, m10⟩ := blk11v hM.out
  by_cases g2 : role = 2
  case pos =>
    have g2' : (role == 2) = true := by simpa using g2
    replace hyB := hid_mk (hyB.out g1.out g2)
    replace g2 := hid_mk g2
    exact absurd g2.out hA.out.2.2.2.2.2.2
  have g2' : (role == 2) = false := by simpa using g2
  replace g2 := hid_mk g2
  go_upto_region 9 with fail
  clear xl x0 x1 x2 x3 x4 x5 x6 x7 x8 x9 x10 x11 x12 x13 xf0 xf1 xf2 xf3 xf4 xf5 xf6 xf7 xf8 xf9 xf10 xf11 xf12 xf13 yl y0 y1 y2 y3 y4 y5 y6 y7 y8 y9 y10 y11 y12 y13 yf0 yf1 yf2 yf3 yf4 yf5 yf6 yf7 yf8 yf9 yf10 yf11 yf12 yf13 ml m0 m1 m2 m3 m4 m5 m6 m7 m8 m9 m10
  refine wp_region_T' (fun w' => w'.cell? ⟨w.heap.size + 1, 1, none⟩ = some (.int .i64 fr)) (fun j => decide (j < 15)) 15 (by kernel_rfl) (by kernel_rfl) (by exact (hM.out.cell 1)) (fun hS0 => ?_)
  replace hX := hid_mk hX.out.drew
  replace hY := hid_mk hY.out.drew
  replace hM := hid_mk hM.out.drew
  have qd : Below w.heap.size w w3.drew := by go_grown
  obtain ⟨wd, hwd⟩ : ∃ x, w3.drew = x := ⟨_, rfl⟩
  rw [hwd] at hS0 hX hY hM qd ⊢
  clear hwd q3
  refine wpAnyT_take (i := 0) rfl (by kernel_rfl) (by kernel_rfl) (by kernel_rfl) rfl (by kernel_rfl) (fun _ _ _ h => h) (by kernel_rfl) (fun w' hS => (by skip; go_simp; try with_reducible rfl)) hS0 ?_
  simp only [Act.put]
  refine wpAnyT_take (i := 1) rfl (by kernel_rfl) (by kernel_rfl) (by kernel_rfl) rfl (by kernel_rfl) (fun _ _ _ h => h) (by kernel_rfl) (fun w' hS => (by skip; go_simp; try with_reducible rfl)) hS0 ?_
  simp only [Act.put]
  refine wpAnyT_take (i := 2) rfl (by kernel_rfl) (by kernel_rfl) (by kernel_rfl) rfl (by kernel_rfl) (fun _ _ _ h => h) (by kernel_rfl) (fun w' hS => (by skip; go_simp; try with_reducible rfl)) hS0 ?_
  simp only [Act.put]
  refine wpAnyT_take (i := 3) rfl (by kernel_rfl) (by kernel_rfl) (by kernel_rfl) rfl (by kernel_rfl) (fun _ _ _ h => h) (by kernel_rfl) (fun w' hS => (by skip; go_simp; try with_reducible rfl)) hS0 ?_
  simp only [Act.put]
  refine wpAnyT_take (i := 4) rfl (by kernel_rfl) (by kernel_rfl) (by kernel_rfl) rfl (by kernel_rfl) (fun _ _ _ h => h) (by kernel_rfl) (fun w' hS => (by skip; go_simp; try with_reducible rfl)) hS0 ?_
  simp only [Act.put]
  refine wpAnyT_take (i := 5) rfl (by kernel_rfl) (by kernel_rfl) (by kernel_rfl) rfl (by kernel_rfl) (fun _ _ _ h => h) (by kernel_rfl) (fun w' hS => (by skip; go_simp; try with_reducible rfl)) hS0 ?_
  simp only [Act.put]
  have mc0 := hX.out.cell 8
  change _ = some (.int .i64 role : Value) at mc0
  have mf0 := hX.out.frozen 8
  have mlt := hX.out.lt
  refine wpAnyT_one (i := 6) (by kernel_rfl) rfl (fun K hK => ?_)
  go_simp
  clear mc0 mf0 mlt
  have hYn := (hY.out.far (p := ⟨w.heap.size, 8, none⟩) (by dsimp only; omega) (.int .i64 0))
  have hMn := (hM.out.far (p := ⟨w.heap.size, 8, none⟩) (by dsimp only; omega) (.int .i64 0))
  have hXn : Blk (wd.setCell ⟨w.heap.size, 8, none⟩ (.int .i64 0)) (w.heap.size) 30 #[.int .i64 id, .int .i64 t, .int .i64 v, .int .i64 base, .int .i64 bt, .slice RA n Rc, .string s, .slice VA m Vc, .int .i64 0, .int .i64 lead, .int .i64 timer, .int .i64 commit, .slice GA gn Gc, .slice PA pn Pc] := (hX.out.set_ 8 (.int .i64 0))
  have qf0 := (qd.setCell (p := ⟨w.heap.size, 8, none⟩) (by dsimp only; omega) (.int .i64 0))
  obtain ⟨wf0, hwn⟩ : ∃ x, (wd.setCell ⟨w.heap.size, 8, none⟩ (.int .i64 0)) = x := ⟨_, rfl⟩
  rw [hwn] at hYn hMn hXn qf0 ⊢
  clear hwn  hY hM hX
  have hY := hid_mk hYn
  have hM := hid_mk hMn
  have hX := hid_mk hXn
  clear hYn hMn hXn
  refine hK.out _ _ (fun _ => (hM.out.cell 1)) ?_
  clear hK K
  try simp only [Act.put]
  refine wpAnyT_take (i := 7) rfl (by kernel_rfl) (by kernel_rfl) (by kernel_rfl) rfl (by kernel_rfl) (fun _ _ _ h => h) (by kernel_rfl) (fun w' hS => (by skip; go_simp; try with_reducible rfl)) (hM.out.cell 1) ?_
  simp only [Act.put]
  have mc0 := hX.out.cell 12
  change _ = some (.slice GA gn Gc : Value) at mc0
  have mf0 := hX.out.frozen 12
  have mlt := hX.out.lt
  refine wpAnyT_one (i := 8) (by kernel_rfl) rfl (fun K hK => ?_)
  go_simp
  clear mc0 mf0 mlt
  have hYn := (hY.out.far (p := ⟨w.heap.size, 12, none⟩) (by dsimp only; omega) (.slice none 0 0))
  have hMn := (hM.out.far (p := ⟨w.heap.size, 12, none⟩) (by dsimp only; omega) (.slice none 0 0))
  have hXn : Blk (wf0.setCell ⟨w.heap.size, 12, none⟩ (.slice none 0 0)) (w.heap.size) 30 #[.int .i64 id, .int .i64 t, .int .i64 v, .int .i64 base, .int .i64 bt, .slice RA n Rc, .string s, .slice VA m Vc, .int .i64 0, .int .i64 lead, .int .i64 timer, .int .i64 commit, .slice none 0 0, .slice PA pn Pc] := (hX.out.set_ 12 (.slice none 0 0))
  have qf1 := (qf0.setCell (p := ⟨w.heap.size, 12, none⟩) (by dsimp only; omega) (.slice none 0 0))
  obtain ⟨wf1, hwn⟩ : ∃ x, (wf0.setCell ⟨w.heap.size, 12, none⟩ (.slice none 0 0)) = x := ⟨_, rfl⟩
  rw [hwn] at hYn hMn hXn qf1 ⊢
  clear hwn qf0 hY hM hX
  have hY := hid_mk hYn
  have hM := hid_mk hMn
  have hX := hid_mk hXn
  clear hYn hMn hXn
  refine hK.out _ _ (fun _ => (hM.out.cell 1)) ?_
  clear hK K
  try simp only [Act.put]
  refine wpAnyT_take (i := 9) rfl (by kernel_rfl) (by kernel_rfl) (by kernel_rfl) rfl (by kernel_rfl) (fun _ _ _ h => h) (by kernel_rfl) (fun w' hS => (by skip; go_simp; try with_reducible rfl)) (hM.out.cell 1) ?_
  simp only [Act.put]
  have mc0 := hX.out.cell 13
  change _ = some (.slice PA pn Pc : Value) at mc0
  have mf0 := hX.out.frozen 13
  have mlt := hX.out.lt
  refine wpAnyT_one (i := 10) (by kernel_rfl) rfl (fun K hK => ?_)
  go_simp
  clear mc0 mf0 mlt
  have hYn := (hY.out.far (p := ⟨w.heap.size, 13, none⟩) (by dsimp only; omega) (.slice none 0 0))
  have hMn := (hM.out.far (p := ⟨w.heap.size, 13, none⟩) (by dsimp only; omega) (.slice none 0 0))
  have hXn : Blk (wf1.setCell ⟨w.heap.size, 13, none⟩ (.slice none 0 0)) (w.heap.size) 30 #[.int .i64 id, .int .i64 t, .int .i64 v, .int .i64 base, .int .i64 bt, .slice RA n Rc, .string s, .slice VA m Vc, .int .i64 0, .int .i64 lead, .int .i64 timer, .int .i64 commit, .slice none 0 0, .slice none 0 0] := (hX.out.set_ 13 (.slice none 0 0))
  have qf2 := (qf1.setCell (p := ⟨w.heap.size, 13, none⟩) (by dsimp only; omega) (.slice none 0 0))
  obtain ⟨wf2, hwn⟩ : ∃ x, (wf1.setCell ⟨w.heap.size, 13, none⟩ (.slice none 0 0)) = x := ⟨_, rfl⟩
  rw [hwn] at hYn hMn hXn qf2 ⊢
  clear hwn qf1 hY hM hX
  have hY := hid_mk hYn
  have hM := hid_mk hMn
  have hX := hid_mk hXn
  clear hYn hMn hXn
  refine hK.out _ _ (fun _ => (hM.out.cell 1)) ?_
  clear hK K
  try simp only [Act.put]
  refine wpAnyT_take (i := 11) rfl (by kernel_rfl) (by kernel_rfl) (by kernel_rfl) rfl (by kernel_rfl) (fun _ _ _ h => h) (by kernel_rfl) (fun w' hS => (by skip; go_simp; try with_reducible rfl)) (hM.out.cell 1) ?_
  simp only [Act.put]
  have mc0 := hX.out.cell 9
  change _ = some (.int .i64 lead : Value) at mc0
  have mf0 := hX.out.frozen 9
  have mlt := hX.out.lt
  refine wpAnyT_one (i := 12) (by kernel_rfl) rfl (fun K hK => ?_)
  go_simp
  clear mc0 mf0 mlt
  have hYn := (hY.out.far (p := ⟨w.heap.size, 9, none⟩) (by dsimp only; omega) (.int .i64 fr))
  have hMn := (hM.out.far (p := ⟨w.heap.size, 9, none⟩) (by dsimp only; omega) (.int .i64 fr))
  have hXn : Blk (wf2.setCell ⟨w.heap.size, 9, none⟩ (.int .i64 fr)) (w.heap.size) 30 #[.int .i64 id, .int .i64 t, .int .i64 v, .int .i64 base, .int .i64 bt, .slice RA n Rc, .string s, .slice VA m Vc, .int .i64 0, .int .i64 fr, .int .i64 timer, .int .i64 commit, .slice none 0 0, .slice none 0 0] := (hX.out.set_ 9 (.int .i64 fr))
  have qf3 := (qf2.setCell (p := ⟨w.heap.size, 9, none⟩) (by dsimp only; omega) (.int .i64 fr))
  obtain ⟨wf3, hwn⟩ : ∃ x, (wf2.setCell ⟨w.heap.size, 9, none⟩ (.int .i64 fr)) = x := ⟨_, rfl⟩
  rw [hwn] at hYn hMn hXn qf3 ⊢
  clear hwn qf2 hY hM hX
  have hY := hid_mk hYn
  have hM := hid_mk hMn
  have hX := hid_mk hXn
  clear hYn hMn hXn
  refine hK.out _ _ (fun _ => (hM.out.cell 1)) ?_
  clear hK K
  try simp only [Act.put]
  refine wpAnyT_take (i := 13) rfl (by kernel_rfl) (by kernel_rfl) (by kernel_rfl) rfl (by kernel_rfl) (fun _ _ _ h => h) (by kernel_rfl) (fun w' hS => (by skip; go_simp; try with_reducible rfl)) (hM.out.cell 1) ?_
  simp only [Act.put]
  have mc0 := hX.out.cell 10
  change _ = some (.int .i64 timer : Value) at mc0
  have mf0 := hX.out.frozen 10
  have mlt := hX.out.lt
  refine wpAnyT_one (i := 14) (by kernel_rfl) rfl (fun K hK => ?_)
  go_simp
  clear mc0 mf0 mlt
  have hYn := (hY.out.far (p := ⟨w.heap.size, 10, none⟩) (by dsimp only; omega) (.int .i64 (min (max d 0) 1048576)))
  have hMn := (hM.out.far (p := ⟨w.heap.size, 10, none⟩) (by dsimp only; omega) (.int .i64 (min (max d 0) 1048576)))
  have hXn : Blk (wf3.setCell ⟨w.heap.size, 10, none⟩ (.int .i64 (min (max d 0) 1048576))) (w.heap.size) 30 #[.int .i64 id, .int .i64 t, .int .i64 v, .int .i64 base, .int .i64 bt, .slice RA n Rc, .string s, .slice VA m Vc, .int .i64 0, .int .i64 fr, .int .i64 (min (max d 0) 1048576), .int .i64 commit, .slice none 0 0, .slice none 0 0] := (hX.out.set_ 10 (.int .i64 (min (max d 0) 1048576)))
  have qf4 := (qf3.setCell (p := ⟨w.heap.size, 10, none⟩) (by dsimp only; omega) (.int .i64 (min (max d 0) 1048576)))
  obtain ⟨wf4, hwn⟩ : ∃ x, (wf3.setCell ⟨w.heap.size, 10, none⟩ (.int .i64 (min (max d 0) 1048576))) = x := ⟨_, rfl⟩
  rw [hwn] at hYn hMn hXn qf4 ⊢
  clear hwn qf3 hY hM hX
  have hY := hid_mk hYn
  have hM := hid_mk hMn
  have hX := hid_mk hXn
  clear hYn hMn hXn
  refine hK.out _ _ (fun _ => (hM.out.cell 1)) ?_
  clear hK K
  try simp only [Act.put]
  refine wpAnyT_done (by kernel_rfl) ?_ _
  obtain ⟨w4, hw4⟩ : ∃ x, wf4 = x := ⟨_, rfl⟩
  rw [hw4] at hX hY hM qf4 ⊢
  have q4 := qf4
  clear hw4 qf4
  obtain ⟨xl, x0, x1, x2, x3, x4, x5, x6, x7, x8, x9, x10, x11, x12, x13, xf0, xf1, xf2, xf3, xf4, xf5, xf6, xf7, xf8, xf9, xf10, xf11, xf12, xf13⟩ := blk14f hX.out
  obtain ⟨yl, y0, y1, y2, y3, y4, y5, y6, y7, y8, y9, y10, y11, y12, y13, yf0, yf1, yf2, yf3, yf4, yf5, yf6, yf7, yf8, yf9, yf10, yf11, yf12, yf13⟩ := blk14f hY.out
  obtain ⟨ml, m0, m1, m2, m3, m4, m5, m6, m7, m8, m9, m10⟩ := blk11v hM.out
  by_cases g3 : index ≤ commit
  case pos =>
    exact absurd hB.out.1 (by omega)
  have g3' : decide (index ≤ commit) = false := by simpa using g3
  replace g3 : commit < index := by omega
  replace g3 := hid_mk g3
  obtain ⟨gH, hgH⟩ : ∃ g, w4.heap.size = g := ⟨_, rfl⟩
  have zH : w.heap.size + 1 + 1 < gH := by rw [← hgH]; exact hY.out.lt
  have hH : Hid (Blk (w4.alloc (.cells #[.int .i64 t, .int .i64 v, .int .i64 base, .int .i64 bt, .slice RA n Rc, .string s, .slice VA m Vc] 27)) gH 27 #[.int .i64 t, .int .i64 v, .int .i64 base, .int .i64 bt, .slice RA n Rc, .string s, .slice VA m Vc]) := by rw [← hgH]; exact Blk.new _ _ _
  replace hX := hid_mk (hX.out.alloc (.cells #[.int .i64 t, .int .i64 v, .int .i64 base, .int .i64 bt, .slice RA n Rc, .string s, .slice VA m Vc] 27))
  replace hY := hid_mk (hY.out.alloc (.cells #[.int .i64 t, .int .i64 v, .int .i64 base, .int .i64 bt, .slice RA n Rc, .string s, .slice VA m Vc] 27))
  replace hM := hid_mk (hM.out.alloc (.cells #[.int .i64 t, .int .i64 v, .int .i64 base, .int .i64 bt, .slice RA n Rc, .string s, .slice VA m Vc] 27))
  have qH : Below w.heap.size w (w4.alloc (.cells #[.int .i64 t, .int .i64 v, .int .i64 base, .int .i64 bt, .slice RA n Rc, .string s, .slice VA m Vc] 27)) := by go_grown
  obtain ⟨wH, hwH⟩ : ∃ x, w4.alloc (.cells #[.int .i64 t, .int .i64 v, .int .i64 base, .int .i64 bt, .slice RA n Rc, .string s, .slice VA m Vc] 27) = x := ⟨_, rfl⟩
  rw [hwH] at hX hY hM hH qH
  replace hwH := hid_mk hwH
  replace hgH := hid_mk hgH
  go_upto_region 13 with fail
  rw [hwH.out, hgH.out]
  clear xl x0 x1 x2 x3 x4 x5 x6 x7 x8 x9 x10 x11 x12 x13 xf0 xf1 xf2 xf3 xf4 xf5 xf6 xf7 xf8 xf9 xf10 xf11 xf12 xf13 yl y0 y1 y2 y3 y4 y5 y6 y7 y8 y9 y10 y11 y12 y13 yf0 yf1 yf2 yf3 yf4 yf5 yf6 yf7 yf8 yf9 yf10 yf11 yf12 yf13 ml m0 m1 m2 m3 m4 m5 m6 m7 m8 m9 m10
  clear hwH hgH q4
  refine wp_region_T' (fun w' => w'.cell? ⟨w.heap.size + 1, 5, none⟩ = some (.int .i64 index) ∧ w'.cell? ⟨w.heap.size + 1, 6, none⟩ = some (.int .i64 lterm) ∧ w'.cell? ⟨w.heap.size + 1, 9, none⟩ = some (.string ms) ∧ w'.cell? ⟨w.heap.size + 1, 10, none⟩ = some (.slice UA un Uc)) (fun j => decide (j < 18)) 18 (by kernel_rfl) (by kernel_rfl) (by exact ⟨hM.out.cell 5, hM.out.cell 6, hM.out.cell 9, hM.out.cell 10⟩) (fun hS0 => ?_)
  replace hX := hid_mk hX.out.drew
  replace hY := hid_mk hY.out.drew
  replace hM := hid_mk hM.out.drew
  replace hH := hid_mk hH.out.drew
  have qd : Below w.heap.size w wH.drew := by go_grown
  obtain ⟨wd, hwd⟩ : ∃ x, wH.drew = x := ⟨_, rfl⟩
  rw [hwd] at hS0 hX hY hM hH qd ⊢
  clear hwd qH
  have zd := qd.size
  refine wpAnyT_take (i := 2) rfl (by kernel_rfl) (by kernel_rfl) (by kernel_rfl) rfl (by kernel_rfl) (fun _ _ _ h => h) (by kernel_rfl) (fun w' hS => (by obtain ⟨s0, s1, s2, s3⟩ := hS; go_simp; try with_reducible rfl)) hS0 ?_
  simp only [Act.put]
  refine wpAnyT_take (i := 3) rfl (by kernel_rfl) (by kernel_rfl) (by kernel_rfl) rfl (by kernel_rfl) (fun _ _ _ h => h) (by kernel_rfl) (fun w' hS => (by obtain ⟨s0, s1, s2, s3⟩ := hS; go_simp; try with_reducible rfl)) hS0 ?_
  simp only [Act.put]
  refine wpAnyT_take (i := 4) rfl (by kernel_rfl) (by kernel_rfl) (by kernel_rfl) rfl (by kernel_rfl) (fun _ _ _ h => h) (by kernel_rfl) (fun w' hS => (by obtain ⟨s0, s1, s2, s3⟩ := hS; go_simp; try with_reducible rfl)) hS0 ?_
  simp only [Act.put]
  refine wpAnyT_take (i := 5) rfl (by kernel_rfl) (by kernel_rfl) (by kernel_rfl) rfl (by kernel_rfl) (fun _ _ _ h => h) (by kernel_rfl) (fun w' hS => (by obtain ⟨s0, s1, s2, s3⟩ := hS; go_simp; try with_reducible rfl)) hS0 ?_
  simp only [Act.put]
  refine wpAnyT_take (i := 7) rfl (by kernel_rfl) (by kernel_rfl) (by kernel_rfl) rfl (by kernel_rfl) (fun _ _ _ h => h) (by kernel_rfl) (fun w' hS => (by obtain ⟨s0, s1, s2, s3⟩ := hS; go_simp; try with_reducible rfl)) hS0 ?_
  simp only [Act.put]
  refine wpAnyT_take (i := 8) rfl (by kernel_rfl) (by kernel_rfl) (by kernel_rfl) rfl (by kernel_rfl) (fun _ _ _ h => h) (by kernel_rfl) (fun w' hS => (by obtain ⟨s0, s1, s2, s3⟩ := hS; go_simp; try with_reducible rfl)) hS0 ?_
  simp only [Act.put]
  refine wpAnyT_take (i := 9) rfl (by kernel_rfl) (by kernel_rfl) (by kernel_rfl) rfl (by kernel_rfl) (fun _ _ _ h => h) (by kernel_rfl) (fun w' hS => (by obtain ⟨s0, s1, s2, s3⟩ := hS; go_simp; try with_reducible rfl)) hS0 ?_
  simp only [Act.put]
  refine wpAnyT_take (i := 10) rfl (by kernel_rfl) (by kernel_rfl) (by kernel_rfl) rfl (by kernel_rfl) (fun _ _ _ h => h) (by kernel_rfl) (fun w' hS => (by obtain ⟨s0, s1, s2, s3⟩ := hS; go_simp; try with_reducible rfl)) hS0 ?_
  simp only [Act.put]
  refine wpAnyT_one (i := 0) (by kernel_rfl) rfl (fun K hK => ?_)
  go_simp
  refine hK.out _ _ (fun _ => ⟨hM.out.cell 5, hM.out.cell 6, hM.out.cell 9, hM.out.cell 10⟩) ?_
  clear hK K
  try simp only [Act.put]
  have h2 := hH.out.cell 2
  have h3 := hH.out.cell 3
  have h4 := hH.out.cell 4
  change _ = some (Value.int .i64 base) at h2
  change _ = some (Value.int .i64 bt) at h3
  change _ = some (Value.slice RA n Rc) at h4
  have hlt := hH.out.lt
  refine wpAnyT_one (i := 1) (by kernel_rfl) rfl (fun K hK => ?_)
  go_simp
  clear h2 h3 h4 hlt
  refine hK.out _ _ (fun _ => ⟨hM.out.cell 5, hM.out.cell 6, hM.out.cell 9, hM.out.cell 10⟩) ?_
  clear hK K
  try simp only [Act.put]
  refine wpAnyT_one (i := 6) (by kernel_rfl) rfl (fun K hK => ?_)
  go_simp
  refine (hAD _ (by omega) (hr.to qd)).mono ?_
  rintro e wA ⟨LA, ln, Lc, rfl, hLr, hlc, _, hb1⟩
  unfold logV
  dsimp only at hLr ⊢
  have hln : ln ≤ n := by have := hLr.len; have := hr.len; omega
  have qA := (after (w := w) hb1 qd).1
  have zA := qA.size
  replace hX := hid_mk (hX.out.keep hb1)
  replace hY := hid_mk (hY.out.keep hb1)
  replace hM := hid_mk (hM.out.keep hb1)
  replace hH := hid_mk (hH.out.keep hb1)
  replace hLr := hid_mk hLr
  clear hb1 qd zd
  refine hK.out _ _ (fun _ => ⟨hM.out.cell 5, hM.out.cell 6, hM.out.cell 9, hM.out.cell 10⟩) ?_
  clear hK K
  try simp only [Act.put]
  refine wpAnyT_take (i := 12) rfl (by kernel_rfl) (by kernel_rfl) (by kernel_rfl) rfl (by kernel_rfl) (fun _ _ _ h => h) (by kernel_rfl) (fun w' hS => (by obtain ⟨s0, s1, s2, s3⟩ := hS; go_simp; try with_reducible rfl)) ⟨hM.out.cell 5, hM.out.cell 6, hM.out.cell 9, hM.out.cell 10⟩ ?_
  simp only [Act.put]
  refine wpAnyT_one (i := 11) (by kernel_rfl) rfl (fun K hK => ?_)
  go_simp
  refine (CloneC_any UA un Uc mvs _ B (by omega) (hui.to qA)).mono ?_
  rintro e wC ⟨WA, Wc, rfl, hWi, hwc, hb1⟩
  have qC := (after (w := w) hb1 qA).1
  have zC := qC.size
  replace hX := hid_mk (hX.out.keep hb1)
  replace hY := hid_mk (hY.out.keep hb1)
  replace hM := hid_mk (hM.out.keep hb1)
  replace hH := hid_mk (hH.out.keep hb1)
  replace hLr := hid_mk (hLr.out.to hb1)
  replace hWi := hid_mk hWi
  clear hb1 qA zA
  refine hK.out _ _ (fun _ => ⟨hM.out.cell 5, hM.out.cell 6, hM.out.cell 9, hM.out.cell 10⟩) ?_
  clear hK K
  try simp only [Act.put]
  have mc0 := hH.out.cell 2
  change _ = some (.int .i64 base : Value) at mc0
  have mf0 := hH.out.frozen 2
  have mc1 := hH.out.cell 3
  change _ = some (.int .i64 bt : Value) at mc1
  have mf1 := hH.out.frozen 3
  have mc2 := hH.out.cell 4
  change _ = some (.slice RA n Rc : Value) at mc2
  have mf2 := hH.out.frozen 4
  have mlt := hH.out.lt
  refine wpAnyT_one (i := 13) (by kernel_rfl) rfl (fun K hK => ?_)
  go_simp
  clear mc0 mf0 mc1 mf1 mc2 mf2 mlt
  have hXn := (((hX.out.far (p := ⟨gH, 2, none⟩) (by dsimp only; omega) (.int .i64 la3)).far (p := ⟨gH, 3, none⟩) (by dsimp only; omega) (.int .i64 lb3)).far (p := ⟨gH, 4, none⟩) (by dsimp only; omega) (.slice LA ln Lc))
  have hYn := (((hY.out.far (p := ⟨gH, 2, none⟩) (by dsimp only; omega) (.int .i64 la3)).far (p := ⟨gH, 3, none⟩) (by dsimp only; omega) (.int .i64 lb3)).far (p := ⟨gH, 4, none⟩) (by dsimp only; omega) (.slice LA ln Lc))
  have hMn := (((hM.out.far (p := ⟨gH, 2, none⟩) (by dsimp only; omega) (.int .i64 la3)).far (p := ⟨gH, 3, none⟩) (by dsimp only; omega) (.int .i64 lb3)).far (p := ⟨gH, 4, none⟩) (by dsimp only; omega) (.slice LA ln Lc))
  have hLrn : Recs (((wC.setCell ⟨gH, 2, none⟩ (.int .i64 la3)).setCell ⟨gH, 3, none⟩ (.int .i64 lb3)).setCell ⟨gH, 4, none⟩ (.slice LA ln Lc)) B LA ln lrs := (Reads.far (Reads.far (Reads.far hLr.out hH.out (by omega) (by decide) 2 (.int .i64 la3)) (hH.out.set_ 2 (.int .i64 la3)) (by omega) (by decide) 3 (.int .i64 lb3)) ((hH.out.set_ 2 (.int .i64 la3)).set_ 3 (.int .i64 lb3)) (by omega) (by decide) 4 (.slice LA ln Lc))
  have hWin : Ints (((wC.setCell ⟨gH, 2, none⟩ (.int .i64 la3)).setCell ⟨gH, 3, none⟩ (.int .i64 lb3)).setCell ⟨gH, 4, none⟩ (.slice LA ln Lc)) 0 WA un mvs := (Reads.far (Reads.far (Reads.far hWi.out hH.out (Nat.zero_le _) (by decide) 2 (.int .i64 la3)) (hH.out.set_ 2 (.int .i64 la3)) (Nat.zero_le _) (by decide) 3 (.int .i64 lb3)) ((hH.out.set_ 2 (.int .i64 la3)).set_ 3 (.int .i64 lb3)) (Nat.zero_le _) (by decide) 4 (.slice LA ln Lc))
  have hHn : Blk (((wC.setCell ⟨gH, 2, none⟩ (.int .i64 la3)).setCell ⟨gH, 3, none⟩ (.int .i64 lb3)).setCell ⟨gH, 4, none⟩ (.slice LA ln Lc)) (gH) 27 #[.int .i64 t, .int .i64 v, .int .i64 la3, .int .i64 lb3, .slice LA ln Lc, .string s, .slice VA m Vc] := (((hH.out.set_ 2 (.int .i64 la3)).set_ 3 (.int .i64 lb3)).set_ 4 (.slice LA ln Lc))
  have qg0 := (((qC.setCell (p := ⟨gH, 2, none⟩) (by dsimp only; omega) (.int .i64 la3)).setCell (p := ⟨gH, 3, none⟩) (by dsimp only; omega) (.int .i64 lb3)).setCell (p := ⟨gH, 4, none⟩) (by dsimp only; omega) (.slice LA ln Lc))
  obtain ⟨wg0, hwn⟩ : ∃ x, (((wC.setCell ⟨gH, 2, none⟩ (.int .i64 la3)).setCell ⟨gH, 3, none⟩ (.int .i64 lb3)).setCell ⟨gH, 4, none⟩ (.slice LA ln Lc)) = x := ⟨_, rfl⟩
  rw [hwn] at hXn hYn hMn hLrn hWin hHn qg0 ⊢
  clear hwn  hX hY hM hLr hWi hH
  have hX := hid_mk hXn
  have hY := hid_mk hYn
  have hM := hid_mk hMn
  have hLr := hid_mk hLrn
  have hWi := hid_mk hWin
  have hH := hid_mk hHn
  clear hXn hYn hMn hLrn hWin hHn
  refine hK.out _ _ (fun _ => ⟨hM.out.cell 5, hM.out.cell 6, hM.out.cell 9, hM.out.cell 10⟩) ?_
  clear hK K
  try simp only [Act.put]
  refine wpAnyT_take (i := 14) rfl (by kernel_rfl) (by kernel_rfl) (by kernel_rfl) rfl (by kernel_rfl) (fun _ _ _ h => h) (by kernel_rfl) (fun w' hS => (by obtain ⟨s0, s1, s2, s3⟩ := hS; go_simp; try with_reducible rfl)) ⟨hM.out.cell 5, hM.out.cell 6, hM.out.cell 9, hM.out.cell 10⟩ ?_
  simp only [Act.put]
  have mc0 := hH.out.cell 5
  change _ = some (.string s : Value) at mc0
  have mf0 := hH.out.frozen 5
  have mlt := hH.out.lt
  refine wpAnyT_one (i := 15) (by kernel_rfl) rfl (fun K hK => ?_)
  go_simp
  clear mc0 mf0 mlt
  have hXn := (hX.out.far (p := ⟨gH, 5, none⟩) (by dsimp only; omega) (.string ms))
  have hYn := (hY.out.far (p := ⟨gH, 5, none⟩) (by dsimp only; omega) (.string ms))
  have hMn := (hM.out.far (p := ⟨gH, 5, none⟩) (by dsimp only; omega) (.string ms))
  have hLrn : Recs (wg0.setCell ⟨gH, 5, none⟩ (.string ms)) B LA ln lrs := (Reads.far hLr.out hH.out (by omega) (by decide) 5 (.string ms))
  have hWin : Ints (wg0.setCell ⟨gH, 5, none⟩ (.string ms)) 0 WA un mvs := (Reads.far hWi.out hH.out (Nat.zero_le _) (by decide) 5 (.string ms))
  have hHn : Blk (wg0.setCell ⟨gH, 5, none⟩ (.string ms)) (gH) 27 #[.int .i64 t, .int .i64 v, .int .i64 la3, .int .i64 lb3, .slice LA ln Lc, .string ms, .slice VA m Vc] := (hH.out.set_ 5 (.string ms))
  have qg1 := (qg0.setCell (p := ⟨gH, 5, none⟩) (by dsimp only; omega) (.string ms))
  obtain ⟨wg1, hwn⟩ : ∃ x, (wg0.setCell ⟨gH, 5, none⟩ (.string ms)) = x := ⟨_, rfl⟩
  rw [hwn] at hXn hYn hMn hLrn hWin hHn qg1 ⊢
  clear hwn qg0 hX hY hM hLr hWi hH
  have hX := hid_mk hXn
  have hY := hid_mk hYn
  have hM := hid_mk hMn
  have hLr := hid_mk hLrn
  have hWi := hid_mk hWin
  have hH := hid_mk hHn
  clear hXn hYn hMn hLrn hWin hHn
  refine hK.out _ _ (fun _ => ⟨hM.out.cell 5, hM.out.cell 6, hM.out.cell 9, hM.out.cell 10⟩) ?_
  clear hK K
  try simp only [Act.put]
  refine wpAnyT_take (i := 16) rfl (by kernel_rfl) (by kernel_rfl) (by kernel_rfl) rfl (by kernel_rfl) (fun _ _ _ h => h) (by kernel_rfl) (fun w' hS => (by obtain ⟨s0, s1, s2, s3⟩ := hS; go_simp; try with_reducible rfl)) ⟨hM.out.cell 5, hM.out.cell 6, hM.out.cell 9, hM.out.cell 10⟩ ?_
  simp only [Act.put]
  have mc0 := hH.out.cell 6
  change _ = some (.slice VA m Vc : Value) at mc0
  have mf0 := hH.out.frozen 6
  have mlt := hH.out.lt
  refine wpAnyT_one (i := 17) (by kernel_rfl) rfl (fun K hK => ?_)
  go_simp
  clear mc0 mf0 mlt
  have hXn := (hX.out.far (p := ⟨gH, 6, none⟩) (by dsimp only; omega) (.slice WA un Wc))
  have hYn := (hY.out.far (p := ⟨gH, 6, none⟩) (by dsimp only; omega) (.slice WA un Wc))
  have hMn := (hM.out.far (p := ⟨gH, 6, none⟩) (by dsimp only; omega) (.slice WA un Wc))
  have hLrn : Recs (wg1.setCell ⟨gH, 6, none⟩ (.slice WA un Wc)) B LA ln lrs := (Reads.far hLr.out hH.out (by omega) (by decide) 6 (.slice WA un Wc))
  have hWin : Ints (wg1.setCell ⟨gH, 6, none⟩ (.slice WA un Wc)) 0 WA un mvs := (Reads.far hWi.out hH.out (Nat.zero_le _) (by decide) 6 (.slice WA un Wc))
  have hHn : Blk (wg1.setCell ⟨gH, 6, none⟩ (.slice WA un Wc)) (gH) 27 #[.int .i64 t, .int .i64 v, .int .i64 la3, .int .i64 lb3, .slice LA ln Lc, .string ms, .slice WA un Wc] := (hH.out.set_ 6 (.slice WA un Wc))
  have qg2 := (qg1.setCell (p := ⟨gH, 6, none⟩) (by dsimp only; omega) (.slice WA un Wc))
  obtain ⟨wg2, hwn⟩ : ∃ x, (wg1.setCell ⟨gH, 6, none⟩ (.slice WA un Wc)) = x := ⟨_, rfl⟩
  rw [hwn] at hXn hYn hMn hLrn hWin hHn qg2 ⊢
  clear hwn qg1 hX hY hM hLr hWi hH
  have hX := hid_mk hXn
  have hY := hid_mk hYn
  have hM := hid_mk hMn
  have hLr := hid_mk hLrn
  have hWi := hid_mk hWin
  have hH := hid_mk hHn
  clear hXn hYn hMn hLrn hWin hHn
  refine hK.out _ _ (fun _ => ⟨hM.out.cell 5, hM.out.cell 6, hM.out.cell 9, hM.out.cell 10⟩) ?_
  clear hK K
  try simp only [Act.put]
  refine wpAnyT_done (by kernel_rfl) ?_ _
  obtain ⟨w5, hw5⟩ : ∃ x, wg2 = x := ⟨_, rfl⟩
  rw [hw5] at hX hY hM hH hLr hWi qg2 ⊢
  have q5 := qg2
  clear hw5 qg2
  obtain ⟨hl, h0, h1, h2, h3, h4, h5, h6, hf0, hf1, hf2, hf3, hf4, hf5, hf6⟩ := blk7f hH.out
  go_wp2_with fail
  clear hl h0 h1 h2 h3 h4 h5 h6 hf0 hf1 hf2 hf3 hf4 hf5 hf6
  refine (hWR ⟨LA, ln, Lc⟩ ⟨WA, un, Wc⟩ _ (by dsimp only; omega) (by dsimp only; omega) (hLr.out.to (by go_grown)) ((hWi.out.more (Nat.zero_le _)).to (by go_grown)) ((ht.to q5).to (by go_grown))).mono ?_
  rintro e w6 ⟨rfl, hb1⟩
  have q6 := (after (w := w) hb1 q5).1
  have z6 := q6.size
  replace hX := hid_mk (hX.out.keep hb1)
  replace hY := hid_mk (hY.out.keep hb1)
  replace hM := hid_mk (hM.out.keep hb1)
  replace hH := hid_mk (hH.out.keep hb1)
  replace hLr := hid_mk (hLr.out.to hb1)
  replace hWi := hid_mk (hWi.out.to hb1)
  clear hb1 q5
  obtain ⟨xl, x0, x1, x2, x3, x4, x5, x6, x7, x8, x9, x10, x11, x12, x13, xf0, xf1, xf2, xf3, xf4, xf5, xf6, xf7, xf8, xf9, xf10, xf11, xf12, xf13⟩ := blk14f hX.out
  obtain ⟨yl, y0, y1, y2, y3, y4, y5, y6, y7, y8, y9, y10, y11, y12, y13, yf0, yf1, yf2, yf3, yf4, yf5, yf6, yf7, yf8, yf9, yf10, yf11, yf12, yf13⟩ := blk14f hY.out
  obtain ⟨ml, m0, m1, m2, m3, m4, m5, m6, m7, m8, m9, m10⟩ := blk11v hM.out
  cases zh
  case false =>
    exact absurd hB.out.2 (by decide)
  go_upto_region 16 with fail
  clear xl x0 x1 x2 x3 x4 x5 x6 x7 x8 x9 x10 x11 x12 x13 xf0 xf1 xf2 xf3 xf4 xf5 xf6 xf7 xf8 xf9 xf10 xf11 xf12 xf13 yl y0 y1 y2 y3 y4 y5 y6 y7 y8 y9 y10 y11 y12 y13 yf0 yf1 yf2 yf3 yf4 yf5 yf6 yf7 yf8 yf9 yf10 yf11 yf12 yf13 ml m0 m1 m2 m3 m4 m5 m6 m7 m8 m9 m10
  refine wp_region_T' (fun w' => w'.cell? ⟨gH, 0, none⟩ = some (.int .i64 t) ∧ w'.cell? ⟨gH, 1, none⟩ = some (.int .i64 v) ∧ w'.cell? ⟨gH, 2, none⟩ = some (.int .i64 la3) ∧ w'.cell? ⟨gH, 3, none⟩ = some (.int .i64 lb3) ∧ w'.cell? ⟨gH, 4, none⟩ = some (.slice LA ln Lc) ∧ w'.cell? ⟨gH, 5, none⟩ = some (.string ms) ∧ w'.cell? ⟨gH, 6, none⟩ = some (.slice WA un Wc) ∧ w'.cell? ⟨w.heap.size + 1, 5, none⟩ = some (.int .i64 index)) (fun j => decide (j < 7)) 7 (by kernel_rfl) (by kernel_rfl) (by exact ⟨hH.out.cell 0, hH.out.cell 1, hH.out.cell 2, hH.out.cell 3, hH.out.cell 4, hH.out.cell 5, hH.out.cell 6, hM.out.cell 5⟩) (fun hS0 => ?_)
  replace hX := hid_mk hX.out.drew
  replace hY := hid_mk hY.out.drew
  replace hM := hid_mk hM.out.drew
  replace hH := hid_mk hH.out.drew
  replace hLr := hid_mk (hLr.out.to (show Below w6.heap.size w6 w6.drew by go_grown))
  replace hWi := hid_mk (hWi.out.to (show Below w6.heap.size w6 w6.drew by go_grown))
  have qd : Below w.heap.size w w6.drew := by go_grown
  obtain ⟨wd, hwd⟩ : ∃ x, w6.drew = x := ⟨_, rfl⟩
  rw [hwd] at hS0 hLr hWi hX hY hM hH qd ⊢
  clear hwd q6 z6
  refine wpAnyT_take (i := 0) rfl (by kernel_rfl) (by kernel_rfl) (by kernel_rfl) rfl (by kernel_rfl) (fun _ _ _ h => h) (by kernel_rfl) (fun w' hS => (by obtain ⟨s0, s1, s2, s3, s4, s5, s6, s7⟩ := hS; go_simp; try with_reducible rfl)) hS0 ?_
  simp only [Act.put]
  refine wpAnyT_take (i := 1) rfl (by kernel_rfl) (by kernel_rfl) (by kernel_rfl) rfl (by kernel_rfl) (fun _ _ _ h => h) (by kernel_rfl) (fun w' hS => (by obtain ⟨s0, s1, s2, s3, s4, s5, s6, s7⟩ := hS; go_simp; try with_reducible rfl)) hS0 ?_
  simp only [Act.put]
  refine wpAnyT_take (i := 2) rfl (by kernel_rfl) (by kernel_rfl) (by kernel_rfl) rfl (by kernel_rfl) (fun _ _ _ h => h) (by kernel_rfl) (fun w' hS => (by obtain ⟨s0, s1, s2, s3, s4, s5, s6, s7⟩ := hS; go_simp; try with_reducible rfl)) hS0 ?_
  simp only [Act.put]
  refine wpAnyT_take (i := 3) rfl (by kernel_rfl) (by kernel_rfl) (by kernel_rfl) rfl (by kernel_rfl) (fun _ _ _ h => h) (by kernel_rfl) (fun w' hS => (by obtain ⟨s0, s1, s2, s3, s4, s5, s6, s7⟩ := hS; go_simp; try with_reducible rfl)) hS0 ?_
  simp only [Act.put]
  have mc0 := hX.out.cell 1
  change _ = some (.int .i64 t : Value) at mc0
  have mf0 := hX.out.frozen 1
  have mc1 := hX.out.cell 2
  change _ = some (.int .i64 v : Value) at mc1
  have mf1 := hX.out.frozen 2
  have mc2 := hX.out.cell 3
  change _ = some (.int .i64 base : Value) at mc2
  have mf2 := hX.out.frozen 3
  have mc3 := hX.out.cell 4
  change _ = some (.int .i64 bt : Value) at mc3
  have mf3 := hX.out.frozen 4
  have mc4 := hX.out.cell 5
  change _ = some (.slice RA n Rc : Value) at mc4
  have mf4 := hX.out.frozen 5
  have mc5 := hX.out.cell 6
  change _ = some (.string s : Value) at mc5
  have mf5 := hX.out.frozen 6
  have mc6 := hX.out.cell 7
  change _ = some (.slice VA m Vc : Value) at mc6
  have mf6 := hX.out.frozen 7
  have mlt := hX.out.lt
  refine wpAnyT_one (i := 4) (by kernel_rfl) rfl (fun K hK => ?_)
  go_simp
  clear mc0 mf0 mc1 mf1 mc2 mf2 mc3 mf3 mc4 mf4 mc5 mf5 mc6 mf6 mlt
  have hYn := (((((((hY.out.far (p := ⟨w.heap.size, 1, none⟩) (by dsimp only; omega) (.int .i64 t)).far (p := ⟨w.heap.size, 2, none⟩) (by dsimp only; omega) (.int .i64 v)).far (p := ⟨w.heap.size, 3, none⟩) (by dsimp only; omega) (.int .i64 la3)).far (p := ⟨w.heap.size, 4, none⟩) (by dsimp only; omega) (.int .i64 lb3)).far (p := ⟨w.heap.size, 5, none⟩) (by dsimp only; omega) (.slice LA ln Lc)).far (p := ⟨w.heap.size, 6, none⟩) (by dsimp only; omega) (.string ms)).far (p := ⟨w.heap.size, 7, none⟩) (by dsimp only; omega) (.slice WA un Wc))
  have hMn := (((((((hM.out.far (p := ⟨w.heap.size, 1, none⟩) (by dsimp only; omega) (.int .i64 t)).far (p := ⟨w.heap.size, 2, none⟩) (by dsimp only; omega) (.int .i64 v)).far (p := ⟨w.heap.size, 3, none⟩) (by dsimp only; omega) (.int .i64 la3)).far (p := ⟨w.heap.size, 4, none⟩) (by dsimp only; omega) (.int .i64 lb3)).far (p := ⟨w.heap.size, 5, none⟩) (by dsimp only; omega) (.slice LA ln Lc)).far (p := ⟨w.heap.size, 6, none⟩) (by dsimp only; omega) (.string ms)).far (p := ⟨w.heap.size, 7, none⟩) (by dsimp only; omega) (.slice WA un Wc))
  have hHn := (((((((hH.out.far (p := ⟨w.heap.size, 1, none⟩) (by dsimp only; omega) (.int .i64 t)).far (p := ⟨w.heap.size, 2, none⟩) (by dsimp only; omega) (.int .i64 v)).far (p := ⟨w.heap.size, 3, none⟩) (by dsimp only; omega) (.int .i64 la3)).far (p := ⟨w.heap.size, 4, none⟩) (by dsimp only; omega) (.int .i64 lb3)).far (p := ⟨w.heap.size, 5, none⟩) (by dsimp only; omega) (.slice LA ln Lc)).far (p := ⟨w.heap.size, 6, none⟩) (by dsimp only; omega) (.string ms)).far (p := ⟨w.heap.size, 7, none⟩) (by dsimp only; omega) (.slice WA un Wc))
  have hLrn : Recs (((((((wd.setCell ⟨w.heap.size, 1, none⟩ (.int .i64 t)).setCell ⟨w.heap.size, 2, none⟩ (.int .i64 v)).setCell ⟨w.heap.size, 3, none⟩ (.int .i64 la3)).setCell ⟨w.heap.size, 4, none⟩ (.int .i64 lb3)).setCell ⟨w.heap.size, 5, none⟩ (.slice LA ln Lc)).setCell ⟨w.heap.size, 6, none⟩ (.string ms)).setCell ⟨w.heap.size, 7, none⟩ (.slice WA un Wc)) B LA ln lrs := (Reads.far (Reads.far (Reads.far (Reads.far (Reads.far (Reads.far (Reads.far hLr.out hX.out (by omega) (by decide) 1 (.int .i64 t)) (hX.out.set_ 1 (.int .i64 t)) (by omega) (by decide) 2 (.int .i64 v)) ((hX.out.set_ 1 (.int .i64 t)).set_ 2 (.int .i64 v)) (by omega) (by decide) 3 (.int .i64 la3)) (((hX.out.set_ 1 (.int .i64 t)).set_ 2 (.int .i64 v)).set_ 3 (.int .i64 la3)) (by omega) (by decide) 4 (.int .i64 lb3)) ((((hX.out.set_ 1 (.int .i64 t)).set_ 2 (.int .i64 v)).set_ 3 (.int .i64 la3)).set_ 4 (.int .i64 lb3)) (by omega) (by decide) 5 (.slice LA ln Lc)) (((((hX.out.set_ 1 (.int .i64 t)).set_ 2 (.int .i64 v)).set_ 3 (.int .i64 la3)).set_ 4 (.int .i64 lb3)).set_ 5 (.slice LA ln Lc)) (by omega) (by decide) 6 (.string ms)) ((((((hX.out.set_ 1 (.int .i64 t)).set_ 2 (.int .i64 v)).set_ 3 (.int .i64 la3)).set_ 4 (.int .i64 lb3)).set_ 5 (.slice LA ln Lc)).set_ 6 (.string ms)) (by omega) (by decide) 7 (.slice WA un Wc))
  have hWin : Ints (((((((wd.setCell ⟨w.heap.size, 1, none⟩ (.int .i64 t)).setCell ⟨w.heap.size, 2, none⟩ (.int .i64 v)).setCell ⟨w.heap.size, 3, none⟩ (.int .i64 la3)).setCell ⟨w.heap.size, 4, none⟩ (.int .i64 lb3)).setCell ⟨w.heap.size, 5, none⟩ (.slice LA ln Lc)).setCell ⟨w.heap.size, 6, none⟩ (.string ms)).setCell ⟨w.heap.size, 7, none⟩ (.slice WA un Wc)) 0 WA un mvs := (Reads.far (Reads.far (Reads.far (Reads.far (Reads.far (Reads.far (Reads.far hWi.out hX.out (Nat.zero_le _) (by decide) 1 (.int .i64 t)) (hX.out.set_ 1 (.int .i64 t)) (Nat.zero_le _) (by decide) 2 (.int .i64 v)) ((hX.out.set_ 1 (.int .i64 t)).set_ 2 (.int .i64 v)) (Nat.zero_le _) (by decide) 3 (.int .i64 la3)) (((hX.out.set_ 1 (.int .i64 t)).set_ 2 (.int .i64 v)).set_ 3 (.int .i64 la3)) (Nat.zero_le _) (by decide) 4 (.int .i64 lb3)) ((((hX.out.set_ 1 (.int .i64 t)).set_ 2 (.int .i64 v)).set_ 3 (.int .i64 la3)).set_ 4 (.int .i64 lb3)) (Nat.zero_le _) (by decide) 5 (.slice LA ln Lc)) (((((hX.out.set_ 1 (.int .i64 t)).set_ 2 (.int .i64 v)).set_ 3 (.int .i64 la3)).set_ 4 (.int .i64 lb3)).set_ 5 (.slice LA ln Lc)) (Nat.zero_le _) (by decide) 6 (.string ms)) ((((((hX.out.set_ 1 (.int .i64 t)).set_ 2 (.int .i64 v)).set_ 3 (.int .i64 la3)).set_ 4 (.int .i64 lb3)).set_ 5 (.slice LA ln Lc)).set_ 6 (.string ms)) (Nat.zero_le _) (by decide) 7 (.slice WA un Wc))
  have hXn : Blk (((((((wd.setCell ⟨w.heap.size, 1, none⟩ (.int .i64 t)).setCell ⟨w.heap.size, 2, none⟩ (.int .i64 v)).setCell ⟨w.heap.size, 3, none⟩ (.int .i64 la3)).setCell ⟨w.heap.size, 4, none⟩ (.int .i64 lb3)).setCell ⟨w.heap.size, 5, none⟩ (.slice LA ln Lc)).setCell ⟨w.heap.size, 6, none⟩ (.string ms)).setCell ⟨w.heap.size, 7, none⟩ (.slice WA un Wc)) (w.heap.size) 30 #[.int .i64 id, .int .i64 t, .int .i64 v, .int .i64 la3, .int .i64 lb3, .slice LA ln Lc, .string ms, .slice WA un Wc, .int .i64 0, .int .i64 fr, .int .i64 (min (max d 0) 1048576), .int .i64 commit, .slice none 0 0, .slice none 0 0] := (((((((hX.out.set_ 1 (.int .i64 t)).set_ 2 (.int .i64 v)).set_ 3 (.int .i64 la3)).set_ 4 (.int .i64 lb3)).set_ 5 (.slice LA ln Lc)).set_ 6 (.string ms)).set_ 7 (.slice WA un Wc))
  have qk0 := (((((((qd.setCell (p := ⟨w.heap.size, 1, none⟩) (by dsimp only; omega) (.int .i64 t)).setCell (p := ⟨w.heap.size, 2, none⟩) (by dsimp only; omega) (.int .i64 v)).setCell (p := ⟨w.heap.size, 3, none⟩) (by dsimp only; omega) (.int .i64 la3)).setCell (p := ⟨w.heap.size, 4, none⟩) (by dsimp only; omega) (.int .i64 lb3)).setCell (p := ⟨w.heap.size, 5, none⟩) (by dsimp only; omega) (.slice LA ln Lc)).setCell (p := ⟨w.heap.size, 6, none⟩) (by dsimp only; omega) (.string ms)).setCell (p := ⟨w.heap.size, 7, none⟩) (by dsimp only; omega) (.slice WA un Wc))
  obtain ⟨wk0, hwn⟩ : ∃ x, (((((((wd.setCell ⟨w.heap.size, 1, none⟩ (.int .i64 t)).setCell ⟨w.heap.size, 2, none⟩ (.int .i64 v)).setCell ⟨w.heap.size, 3, none⟩ (.int .i64 la3)).setCell ⟨w.heap.size, 4, none⟩ (.int .i64 lb3)).setCell ⟨w.heap.size, 5, none⟩ (.slice LA ln Lc)).setCell ⟨w.heap.size, 6, none⟩ (.string ms)).setCell ⟨w.heap.size, 7, none⟩ (.slice WA un Wc)) = x := ⟨_, rfl⟩
  rw [hwn] at hYn hMn hHn hLrn hWin hXn qk0 ⊢
  clear hwn  hY hM hH hLr hWi hX
  have hY := hid_mk hYn
  have hM := hid_mk hMn
  have hH := hid_mk hHn
  have hLr := hid_mk hLrn
  have hWi := hid_mk hWin
  have hX := hid_mk hXn
  clear hYn hMn hHn hLrn hWin hXn
  refine hK.out _ _ (fun _ => ⟨hH.out.cell 0, hH.out.cell 1, hH.out.cell 2, hH.out.cell 3, hH.out.cell 4, hH.out.cell 5, hH.out.cell 6, hM.out.cell 5⟩) ?_
  clear hK K
  try simp only [Act.put]
  refine wpAnyT_take (i := 5) rfl (by kernel_rfl) (by kernel_rfl) (by kernel_rfl) rfl (by kernel_rfl) (fun _ _ _ h => h) (by kernel_rfl) (fun w' hS => (by obtain ⟨s0, s1, s2, s3, s4, s5, s6, s7⟩ := hS; go_simp; try with_reducible rfl)) ⟨hH.out.cell 0, hH.out.cell 1, hH.out.cell 2, hH.out.cell 3, hH.out.cell 4, hH.out.cell 5, hH.out.cell 6, hM.out.cell 5⟩ ?_
  simp only [Act.put]
  have mc0 := hX.out.cell 11
  change _ = some (.int .i64 commit : Value) at mc0
  have mf0 := hX.out.frozen 11
  have mlt := hX.out.lt
  refine wpAnyT_one (i := 6) (by kernel_rfl) rfl (fun K hK => ?_)
  go_simp
  clear mc0 mf0 mlt
  have hYn := (hY.out.far (p := ⟨w.heap.size, 11, none⟩) (by dsimp only; omega) (.int .i64 index))
  have hMn := (hM.out.far (p := ⟨w.heap.size, 11, none⟩) (by dsimp only; omega) (.int .i64 index))
  have hHn := (hH.out.far (p := ⟨w.heap.size, 11, none⟩) (by dsimp only; omega) (.int .i64 index))
  have hLrn : Recs (wk0.setCell ⟨w.heap.size, 11, none⟩ (.int .i64 index)) B LA ln lrs := (Reads.far hLr.out hX.out (by omega) (by decide) 11 (.int .i64 index))
  have hWin : Ints (wk0.setCell ⟨w.heap.size, 11, none⟩ (.int .i64 index)) 0 WA un mvs := (Reads.far hWi.out hX.out (Nat.zero_le _) (by decide) 11 (.int .i64 index))
  have hXn : Blk (wk0.setCell ⟨w.heap.size, 11, none⟩ (.int .i64 index)) (w.heap.size) 30 #[.int .i64 id, .int .i64 t, .int .i64 v, .int .i64 la3, .int .i64 lb3, .slice LA ln Lc, .string ms, .slice WA un Wc, .int .i64 0, .int .i64 fr, .int .i64 (min (max d 0) 1048576), .int .i64 index, .slice none 0 0, .slice none 0 0] := (hX.out.set_ 11 (.int .i64 index))
  have qk1 := (qk0.setCell (p := ⟨w.heap.size, 11, none⟩) (by dsimp only; omega) (.int .i64 index))
  obtain ⟨wk1, hwn⟩ : ∃ x, (wk0.setCell ⟨w.heap.size, 11, none⟩ (.int .i64 index)) = x := ⟨_, rfl⟩
  rw [hwn] at hYn hMn hHn hLrn hWin hXn qk1 ⊢
  clear hwn qk0 hY hM hH hLr hWi hX
  have hY := hid_mk hYn
  have hM := hid_mk hMn
  have hH := hid_mk hHn
  have hLr := hid_mk hLrn
  have hWi := hid_mk hWin
  have hX := hid_mk hXn
  clear hYn hMn hHn hLrn hWin hXn
  refine hK.out _ _ (fun _ => ⟨hH.out.cell 0, hH.out.cell 1, hH.out.cell 2, hH.out.cell 3, hH.out.cell 4, hH.out.cell 5, hH.out.cell 6, hM.out.cell 5⟩) ?_
  clear hK K
  try simp only [Act.put]
  refine wpAnyT_done (by kernel_rfl) ?_ _
  obtain ⟨w7, hw7⟩ : ∃ x, wk1 = x := ⟨_, rfl⟩
  rw [hw7] at hX hY hM hH hLr hWi qk1 ⊢
  have q7 := qk1
  clear hw7 qk1 hH
  obtain ⟨xl, x0, x1, x2, x3, x4, x5, x6, x7, x8, x9, x10, x11, x12, x13, xf0, xf1, xf2, xf3, xf4, xf5, xf6, xf7, xf8, xf9, xf10, xf11, xf12, xf13⟩ := blk14f hX.out
  obtain ⟨yl, y0, y1, y2, y3, y4, y5, y6, y7, y8, y9, y10, y11, y12, y13, yf0, yf1, yf2, yf3, yf4, yf5, yf6, yf7, yf8, yf9, yf10, yf11, yf12, yf13⟩ := blk14f hY.out
  obtain ⟨ml, m0, m1, m2, m3, m4, m5, m6, m7, m8, m9, m10⟩ := blk11v hM.out
  have hfin := hid_mk (hyE.out g1.out g2.out g3.out (by first | rfl | trivial))
  go_upto_region 17 with fail
  clear xl x0 x1 x2 x3 x4 x5 x6 x7 x8 x9 x10 x11 x12 x13 xf0 xf1 xf2 xf3 xf4 xf5 xf6 xf7 xf8 xf9 xf10 xf11 xf12 xf13 yl y0 y1 y2 y3 y4 y5 y6 y7 y8 y9 y10 y11 y12 y13 yf0 yf1 yf2 yf3 yf4 yf5 yf6 yf7 yf8 yf9 yf10 yf11 yf12 yf13 ml m0 m1 m2 m3 m4 m5 m6 m7 m8 m9 m10
  refine wp_region_T' (fun w' => w'.cell? ⟨w.heap.size, 0, none⟩ = some (.int .i64 id) ∧ w'.cell? ⟨w.heap.size, 1, none⟩ = some (.int .i64 t) ∧ w'.cell? ⟨w.heap.size, 2, none⟩ = some (.int .i64 v) ∧ w'.cell? ⟨w.heap.size, 3, none⟩ = some (.int .i64 la3) ∧ w'.cell? ⟨w.heap.size, 4, none⟩ = some (.int .i64 lb3) ∧ w'.cell? ⟨w.heap.size, 5, none⟩ = some (.slice LA ln Lc) ∧ w'.cell? ⟨w.heap.size, 6, none⟩ = some (.string ms) ∧ w'.cell? ⟨w.heap.size, 7, none⟩ = some (.slice WA un Wc) ∧ w'.cell? ⟨w.heap.size, 8, none⟩ = some (.int .i64 0) ∧ w'.cell? ⟨w.heap.size, 9, none⟩ = some (.int .i64 fr) ∧ w'.cell? ⟨w.heap.size, 10, none⟩ = some (.int .i64 (min (max d 0) 1048576)) ∧ w'.cell? ⟨w.heap.size, 11, none⟩ = some (.int .i64 index) ∧ w'.cell? ⟨w.heap.size, 12, none⟩ = some (.slice none 0 0) ∧ w'.cell? ⟨w.heap.size, 13, none⟩ = some (.slice none 0 0) ∧ w'.cell? ⟨w.heap.size + 1, 5, none⟩ = some (.int .i64 index)) (fun j => decide (j < 7)) 7 (by kernel_rfl) (by kernel_rfl) (by exact ⟨hX.out.cell 0, hX.out.cell 1, hX.out.cell 2, hX.out.cell 3, hX.out.cell 4, hX.out.cell 5, hX.out.cell 6, hX.out.cell 7, hX.out.cell 8, hX.out.cell 9, hX.out.cell 10, hX.out.cell 11, hX.out.cell 12, hX.out.cell 13, hM.out.cell 5⟩) (fun hS0 => ?_)
  replace hX := hid_mk hX.out.drew
  replace hY := hid_mk hY.out.drew
  replace hM := hid_mk hM.out.drew
  have qd : Below w.heap.size w w7.drew := by go_grown
  obtain ⟨wd, hwd⟩ : ∃ x, w7.drew = x := ⟨_, rfl⟩
  replace hLr := hid_mk (hLr.out.to (show Below w7.heap.size w7 w7.drew by go_grown))
  replace hWi := hid_mk (hWi.out.to (show Below w7.heap.size w7 w7.drew by go_grown))
  rw [hwd] at hS0 hX hY hM qd hLr hWi ⊢
  clear hwd
  have zd := qd.size
  refine wpAnyT_take (i := 0) rfl (by kernel_rfl) (by kernel_rfl) (by kernel_rfl) rfl (by kernel_rfl) (fun _ _ _ h => h) (by kernel_rfl) (fun w' hS => (by obtain ⟨s0, s1, s2, s3, s4, s5, s6, s7, s8, s9, s10, s11, s12, s13, s14⟩ := hS; go_simp; try with_reducible rfl)) hS0 ?_
  simp only [Act.put]
  refine wpAnyT_take (i := 1) rfl (by kernel_rfl) (by kernel_rfl) (by kernel_rfl) rfl (by kernel_rfl) (fun _ _ _ h => h) (by kernel_rfl) (fun w' hS => (by obtain ⟨s0, s1, s2, s3, s4, s5, s6, s7, s8, s9, s10, s11, s12, s13, s14⟩ := hS; go_simp; try with_reducible rfl)) hS0 ?_
  simp only [Act.put]
  refine wpAnyT_take (i := 2) rfl (by kernel_rfl) (by kernel_rfl) (by kernel_rfl) rfl (by kernel_rfl) (fun _ _ _ h => h) (by kernel_rfl) (fun w' hS => (by obtain ⟨s0, s1, s2, s3, s4, s5, s6, s7, s8, s9, s10, s11, s12, s13, s14⟩ := hS; go_simp; try with_reducible rfl)) hS0 ?_
  simp only [Act.put]
  refine wpAnyT_take (i := 3) rfl (by kernel_rfl) (by kernel_rfl) (by kernel_rfl) rfl (by kernel_rfl) (fun _ _ _ h => h) (by kernel_rfl) (fun w' hS => (by obtain ⟨s0, s1, s2, s3, s4, s5, s6, s7, s8, s9, s10, s11, s12, s13, s14⟩ := hS; go_simp; try with_reducible rfl)) hS0 ?_
  simp only [Act.put]
  refine wpAnyT_one (i := 4) (by kernel_rfl) rfl (fun K hK => ?_)
  go_simp
  refine (AnsI_any true index id fr t w.heap.size (w.heap.size + 1) _ (hX.out.cell 0) (hX.out.cell 1) (hM.out.cell 1)).mono ?_
  rintro e wS ⟨gS, rfl, kS, hb1⟩
  have qS := (after (w := w) hb1 qd).1
  have hL1 : Hid (Mgs wS 0 (some ⟨gS, 0, none⟩) 1 ([fitM id fr t true index].map fun M => (M, nilMA))) := hid_mk (mgs_one (M := fitM id fr t true index) kS rfl rfl rfl)
  replace hX := hid_mk (hX.out.keep hb1)
  replace hY := hid_mk (hY.out.keep hb1)
  replace hM := hid_mk (hM.out.keep hb1)
  replace hLr := hid_mk (hLr.out.to hb1)
  replace hWi := hid_mk (hWi.out.to hb1)
  clear hb1 kS
  refine hK.out _ _ (fun _ => ⟨hX.out.cell 0, hX.out.cell 1, hX.out.cell 2, hX.out.cell 3, hX.out.cell 4, hX.out.cell 5, hX.out.cell 6, hX.out.cell 7, hX.out.cell 8, hX.out.cell 9, hX.out.cell 10, hX.out.cell 11, hX.out.cell 12, hX.out.cell 13, hM.out.cell 5⟩) ?_
  clear hK K
  try simp only [Act.put]
  obtain ⟨yl, y0, y1, y2, y3, y4, y5, y6, y7, y8, y9, y10, y11, y12, y13, yf0, yf1, yf2, yf3, yf4, yf5, yf6, yf7, yf8, yf9, yf10, yf11, yf12, yf13⟩ := blk14f hY.out
  refine wpAnyT_one (i := 5) (by kernel_rfl) rfl (fun K hK => ?_)
  go_simp
  clear yl y0 y1 y2 y3 y4 y5 y6 y7 y8 y9 y10 y11 y12 y13 yf0 yf1 yf2 yf3 yf4 yf5 yf6 yf7 yf8 yf9 yf10 yf11 yf12 yf13
  replace hL1 := hid_mk (mgs_set14K hL1.out hY.out (by decide) (by intro M hM; rw [List.mem_singleton] at hM; subst hM; exact ⟨rfl, rfl, rfl⟩) (.int .i64 id) (.int .i64 t) (.int .i64 v) (.int .i64 la3) (.int .i64 lb3) (.slice LA ln Lc) (.string ms) (.slice WA un Wc) (.int .i64 0) (.int .i64 fr) (.int .i64 (min (max d 0) 1048576)) (.int .i64 index) (.slice none 0 0) (.slice none 0 0))
  replace hX := hid_mk (set14_farS hX.out (by omega : w.heap.size ≠ w.heap.size + 1 + 1) (.int .i64 id) (.int .i64 t) (.int .i64 v) (.int .i64 la3) (.int .i64 lb3) (.slice LA ln Lc) (.string ms) (.slice WA un Wc) (.int .i64 0) (.int .i64 fr) (.int .i64 (min (max d 0) 1048576)) (.int .i64 index) (.slice none 0 0) (.slice none 0 0))
  have qz := set14_below (.int .i64 id) (.int .i64 t) (.int .i64 v) (.int .i64 la3) (.int .i64 lb3) (.slice LA ln Lc) (.string ms) (.slice WA un Wc) (.int .i64 0) (.int .i64 fr) (.int .i64 (min (max d 0) 1048576)) (.int .i64 index) (.slice none 0 0) (.slice none 0 0) qS (by omega : w.heap.size ≤ w.heap.size + 1 + 1)
  have hYo := hY
  replace hY := hid_mk (set14_blk hY.out (.int .i64 id) (.int .i64 t) (.int .i64 v) (.int .i64 la3) (.int .i64 lb3) (.slice LA ln Lc) (.string ms) (.slice WA un Wc) (.int .i64 0) (.int .i64 fr) (.int .i64 (min (max d 0) 1048576)) (.int .i64 index) (.slice none 0 0) (.slice none 0 0))
  replace hM := hid_mk (set14_farS hM.out (by omega : w.heap.size + 1 ≠ w.heap.size + 1 + 1) (.int .i64 id) (.int .i64 t) (.int .i64 v) (.int .i64 la3) (.int .i64 lb3) (.slice LA ln Lc) (.string ms) (.slice WA un Wc) (.int .i64 0) (.int .i64 fr) (.int .i64 (min (max d 0) 1048576)) (.int .i64 index) (.slice none 0 0) (.slice none 0 0))
  obtain ⟨wz, hwz⟩ : ∃ x, set14 wS (w.heap.size + 1 + 1) (.int .i64 id) (.int .i64 t) (.int .i64 v) (.int .i64 la3) (.int .i64 lb3) (.slice LA ln Lc) (.string ms) (.slice WA un Wc) (.int .i64 0) (.int .i64 fr) (.int .i64 (min (max d 0) 1048576)) (.int .i64 index) (.slice none 0 0) (.slice none 0 0) = x := ⟨_, rfl⟩
  rw [hwz] at hX hY hL1 qz hM
  have hLrz := hid_mk (set14_reads hYo.out (.int .i64 id) (.int .i64 t) (.int .i64 v) (.int .i64 la3) (.int .i64 lb3) (.slice LA ln Lc) (.string ms) (.slice WA un Wc) (.int .i64 0) (.int .i64 fr) (.int .i64 (min (max d 0) 1048576)) (.int .i64 index) (.slice none 0 0) (.slice none 0 0) hBy (by decide) hLr.out)
  rw [hwz] at hLrz
  have hWiz := hid_mk (set14_reads hYo.out (.int .i64 id) (.int .i64 t) (.int .i64 v) (.int .i64 la3) (.int .i64 lb3) (.slice LA ln Lc) (.string ms) (.slice WA un Wc) (.int .i64 0) (.int .i64 fr) (.int .i64 (min (max d 0) 1048576)) (.int .i64 index) (.slice none 0 0) (.slice none 0 0) (Nat.zero_le _) (by decide) hWi.out)
  rw [hwz] at hWiz
  unfold set14 at hwz
  rw [hwz]
  clear hwz hYo
  refine hK.out _ _ (fun _ => ⟨hX.out.cell 0, hX.out.cell 1, hX.out.cell 2, hX.out.cell 3, hX.out.cell 4, hX.out.cell 5, hX.out.cell 6, hX.out.cell 7, hX.out.cell 8, hX.out.cell 9, hX.out.cell 10, hX.out.cell 11, hX.out.cell 12, hX.out.cell 13, hM.out.cell 5⟩) ?_
  clear hK K
  try simp only [Act.put]
  refine wpAnyT_one (i := 6) (by kernel_rfl) rfl (fun K hK => ?_)
  go_simp
  refine hK.out _ _ (fun _ => ⟨hX.out.cell 0, hX.out.cell 1, hX.out.cell 2, hX.out.cell 3, hX.out.cell 4, hX.out.cell 5, hX.out.cell 6, hX.out.cell 7, hX.out.cell 8, hX.out.cell 9, hX.out.cell 10, hX.out.cell 11, hX.out.cell 12, hX.out.cell 13, hM.out.cell 5⟩) ?_
  clear hK K
  try simp only [Act.put]
  refine wpAnyT_done (by kernel_rfl) ?_ _
  obtain ⟨_, y0, y1, y2, y3, y4, y5, y6, y7, y8, y9, y10, y11, y12, y13⟩ := blk14c hY.out
  go_wp2
  refine ends_ret hQ (v := .tuple #[.agg #[.int .i64 id, .int .i64 t, .int .i64 v, .int .i64 la3, .int .i64 lb3, .slice LA ln Lc, .string ms, .slice WA un Wc, .int .i64 0, .int .i64 fr, .int .i64 (min (max d 0) 1048576), .int .i64 index, .slice none 0 0, .slice none 0 0], .slice (some ⟨gS, 0, none⟩) 1 1]) (by simp [results, Tryz.results17, go_sem, y0, y1, y2, y3, y4, y5, y6, y7, y8, y9, y10, y11, y12, y13]) rfl ?_
  exact ⟨⟨⟨LA, ln, Lc⟩, ⟨WA, un, Wc⟩, ⟨none, 0, 0⟩, ⟨none, 0, 0⟩⟩, some ⟨gS, 0, none⟩, 1, 1, by rw [hfin.out.1]; rfl, by (rw [hfin.out.1]; exact ⟨hLrz.out, hlc, by dsimp only; omega, (hWiz.out.more (Nat.zero_le _)), hwc, hub, hus, Reads.none_, Nat.le_refl _, by dsimp only; omega, Reads.none_, Nat.le_refl _, by dsimp only; omega⟩), by rw [hfin.out.2]; exact hL1.out, Nat.le_refl _, qz⟩
theorem SInst_any (N : Nd) (a : NdA) (M : Ms) (b : MsA) (d : Int) (w : World) {B : Nat} (hBw : B ≤ w.heap.size) (hN : NdOk w B N a) (hMs : MsOk w B M b) (ht : Tab w) :
    Calls Tryz.prog 17 #[nodeV N a, msgV M b, .int .i64 d] w fun e w' => RetNL w B (instN N M d) (instL N M) e w' := by
  by_cases h1 : (rightN N && (mayM M && (M.kind == 5 && (M.to == N.id && decide (M.term ≤ N.h.t))))) = true ∧ N.h.t ≤ M.term ∧ ¬ N.role = 2
  · obtain ⟨h2, h3, h4⟩ := h1
    simp only [Bool.and_eq_true, beq_iff_eq, decide_eq_true_eq] at h2
    have hA : rightN N = true ∧ mayM M = true ∧ M.kind = 5 ∧ M.to = N.id ∧ M.term ≤ N.h.t ∧ N.h.t ≤ M.term ∧ ¬ N.role = 2 := ⟨h2.1, h2.2.1, h2.2.2.1, h2.2.2.2.1, h2.2.2.2.2, h3, h4⟩
    by_cases h5 : N.commit < M.index ∧ rightH (instH N M) = true
    · exact SInst3_any N a M b d w hBw hN hMs ht hA h5
    · exact SInst2_any N a M b d w hBw hN hMs ht hA (fun h6 => by
        cases h7 : rightH (instH N M) with
        | false => rfl
        | true => exact absurd ⟨h6, h7⟩ h5)
  · exact SInst1_any N a M b d w hBw hN hMs ht (fun h2 h3 h4 => h1 ⟨h2, h3, h4⟩)
end Go.Proofs.YtncdjmpdbinanaaGreatDoor
