/-
  WHAT IS PROVED HERE: what elect.Vote hands back of any node and message. Conditions: the slices are of at most 2^47 elements; the library's table stands.
-/
import Derived.Test.YtnaindoeihnmpaaGreatDoorZLat
import Derived.Test.YtnaindoeihnmpaaGreatDoorZGMem
import Derived.Test.YtnaindoeihnmpaaGreatDoorZGJrn
import Derived.Test.YtnaindoeihnmpaaGreatDoorZMay6
import Derived.Deep.DeepCutAuto
namespace Go.Proofs.YtnaindoeihnmpaaGreatDoor
open Go.RowKit

theorem blk11v {w : World} {g : Nat} {t : TypeId} {a0 a1 a2 a3 a4 a5 a6 a7 a8 a9 a10 : Value} (h : Blk w g t #[a0, a1, a2, a3, a4, a5, a6, a7, a8, a9, a10]) :
    g < w.heap.size ∧ w.cell? ⟨g, 0, none⟩ = some a0 ∧ w.cell? ⟨g, 1, none⟩ = some a1 ∧ w.cell? ⟨g, 2, none⟩ = some a2 ∧ w.cell? ⟨g, 3, none⟩ = some a3 ∧ w.cell? ⟨g, 4, none⟩ = some a4 ∧ w.cell? ⟨g, 5, none⟩ = some a5 ∧ w.cell? ⟨g, 6, none⟩ = some a6 ∧ w.cell? ⟨g, 7, none⟩ = some a7 ∧ w.cell? ⟨g, 8, none⟩ = some a8 ∧ w.cell? ⟨g, 9, none⟩ = some a9 ∧ w.cell? ⟨g, 10, none⟩ = some a10 :=
  ⟨h.lt, h.cell 0, h.cell 1, h.cell 2, h.cell 3, h.cell 4, h.cell 5, h.cell 6, h.cell 7, h.cell 8, h.cell 9, h.cell 10⟩
theorem set14_far {w : World} {g g' : Nat} {t : TypeId} {cs : Array Value} (h : Blk w g t cs) (hg : g ≠ g') (b0 b1 b2 b3 b4 b5 b6 b7 b8 b9 b10 b11 b12 b13 : Value) : Blk (set14 w g' b0 b1 b2 b3 b4 b5 b6 b7 b8 b9 b10 b11 b12 b13) g t cs := by
  unfold set14
  exact (((((((((((((h.far (by exact hg) _).far (by exact hg) _).far (by exact hg) _).far (by exact hg) _).far (by exact hg) _).far (by exact hg) _).far (by exact hg) _).far (by exact hg) _).far (by exact hg) _).far (by exact hg) _).far (by exact hg) _).far (by exact hg) _).far (by exact hg) _).far (by exact hg) _
theorem voteS {w : World} {g h : Nat} {t t' : TypeId} {a0 a1 a2 a3 a4 a5 a6 a7 a8 a9 a10 a11 a12 a13 m1 : Value} {cs' : Array Value} (hm : cs'[1]? = some m1) (hX : Blk w g t #[a0, a1, a2, a3, a4, a5, a6, a7, a8, a9, a10, a11, a12, a13]) (hM : Blk w h t' cs') : w.cell? ⟨g, 0, none⟩ = some a0 ∧ w.cell? ⟨g, 1, none⟩ = some a1 ∧ w.cell? ⟨g, 2, none⟩ = some a2 ∧ w.cell? ⟨g, 3, none⟩ = some a3 ∧ w.cell? ⟨g, 4, none⟩ = some a4 ∧ w.cell? ⟨g, 5, none⟩ = some a5 ∧ w.cell? ⟨g, 6, none⟩ = some a6 ∧ w.cell? ⟨g, 7, none⟩ = some a7 ∧ w.cell? ⟨g, 8, none⟩ = some a8 ∧ w.cell? ⟨g, 9, none⟩ = some a9 ∧ w.cell? ⟨g, 10, none⟩ = some a10 ∧ w.cell? ⟨g, 11, none⟩ = some a11 ∧ w.cell? ⟨g, 12, none⟩ = some a12 ∧ w.cell? ⟨g, 13, none⟩ = some a13 ∧ w.cell? ⟨h, 1, none⟩ = some m1 := ⟨hX.cell 0, hX.cell 1, hX.cell 2, hX.cell 3, hX.cell 4, hX.cell 5, hX.cell 6, hX.cell 7, hX.cell 8, hX.cell 9, hX.cell 10, hX.cell 11, hX.cell 12, hX.cell 13, (hM.cell 1).trans hm⟩
/-- is the message one that asks this node for its vote, in a term that it has seen? -/
def voteP (N : Nd) (M : Ms) : Bool := rightN N && (mayM M && (M.kind == 1 && (M.to == N.id && decide (M.term ≤ N.h.t))))
/-- is the vote granted? -/
def voteG (N : Nd) (M : Ms) : Bool := M.term == N.h.t && ((N.h.v == 0 || N.h.v == M.fr) && newerJ N.h.l M.index M.lterm)
def voteN (N : Nd) (M : Ms) (d : Int) : Nd := if voteP N M && voteG N M then ⟨N.id, ⟨N.h.t, M.fr, N.h.l, N.h.s, N.h.vs⟩, N.role, N.lead, min (max d 0) 1048576, N.commit, N.got, N.ps⟩ else N
def voteL (N : Nd) (M : Ms) : List Ms := if voteP N M then [⟨2, N.id, M.fr, N.h.t, voteG N M, 0, 0, [], 0, ⟨#[]⟩, []⟩] else []
theorem voteOk {w : World} {B : Nat} {N : Nd} {a : NdA} (h : NdOk w B N a) (M : Ms) (d : Int) : NdOk w B (voteN N M d) a := by
  unfold voteN
  split
  · exact ⟨h.recs, h.rc, h.rb, h.vs, h.vc, h.vb, h.sb, h.got, h.gc, h.gb, h.ps, h.pc, h.pb⟩
  · exact h
set_option maxRecDepth 100000 in
set_option maxHeartbeats 12800000 in
theorem Vote_any (N : Nd) (a : NdA) (M : Ms) (b : MsA) (d : Int) (w : World) {B : Nat} (hN : NdOk w B N a) (hMs : MsOk w B M b) (ht : Tab w) :
    Calls Tryz.prog 14 #[nodeV N a, msgV M b, .int .i64 d] w fun e w' => RetNM (voteN N M d) a (voteL N M) e w' ∧ Below w.heap.size w w' := by
  obtain ⟨zr, hzr⟩ : ∃ z, rightN N = z := ⟨_, rfl⟩
  obtain ⟨zm, hzm⟩ : ∃ z, mayM M = z := ⟨_, rfl⟩
  obtain ⟨zn, hzn⟩ : ∃ z, newerJ N.h.l M.index M.lterm = z := ⟨_, rfl⟩
  have hsh : Hid (zr = true → rightJ N.h.l = true) := fun e => shaped_J (right_shaped (by
    rw [e] at hzr
    unfold rightN at hzr
    simp only [Bool.and_eq_true] at hzr
    exact hzr.2.1))
  obtain ⟨N', hN'⟩ : ∃ z, voteN N M d = z := ⟨_, rfl⟩
  obtain ⟨L, hL⟩ : ∃ z, voteL N M = z := ⟨_, rfl⟩
  have hNo : Hid ((zr && (zm && (M.kind == 1 && (M.to == N.id && decide (M.term ≤ N.h.t))))) = false → N' = N ∧ L = []) := fun e => by
    have hp : voteP N M = false := by unfold voteP; rw [hzr, hzm]; exact e
    rw [← hN', ← hL]
    unfold voteN voteL
    simp [hp]
  have hYes : Hid ((zr && (zm && (M.kind == 1 && (M.to == N.id && decide (M.term ≤ N.h.t))))) = true → ∀ g, (M.term == N.h.t && ((N.h.v == 0 || N.h.v == M.fr) && zn)) = g → N' = (if g then ⟨N.id, ⟨N.h.t, M.fr, N.h.l, N.h.s, N.h.vs⟩, N.role, N.lead, min (max d 0) 1048576, N.commit, N.got, N.ps⟩ else N) ∧ L = [⟨2, N.id, M.fr, N.h.t, g, 0, 0, [], 0, ⟨#[]⟩, []⟩]) := fun e g hg => by
    have hp : voteP N M = true := by unfold voteP; rw [hzr, hzm]; exact e
    have hgg : voteG N M = g := by unfold voteG; rw [hzn]; exact hg
    rw [← hN', ← hL]
    unfold voteN voteL
    simp [hp, hgg]
  rw [hN', hL]
  replace hzr := hid_mk hzr
  replace hzm := hid_mk hzm
  replace hzn := hid_mk hzn
  clear hN' hL
  have hER := ERight_any N a
  have hEM := EMay_any M b
  have hN0 := hN
  have hM0 := hMs
  obtain ⟨hr, _, hrb, _, _, _, _, _, _, _, _, _, _⟩ := hN
  clear hMs
  obtain ⟨id, ⟨t, v, ⟨base, bt, rs⟩, s, vs⟩, role, lead, timer, commit, got, ps⟩ := N
  obtain ⟨⟨RA, n, Rc⟩, ⟨VA, m, Vc⟩, ⟨GA, gn, Gc⟩, ⟨PA, pn, Pc⟩⟩ := a
  obtain ⟨kind, fr, mto, mt, ok, index, lterm, mrs, mcommit, ms, mvs⟩ := M
  obtain ⟨⟨QA, qn, Qc⟩, ⟨UA, un, Uc⟩⟩ := b
  unfold nodeV at hER ⊢
  unfold msgV at hEM ⊢
  dsimp only at hr hrb hNo hYes hER hEM hsh hzn ⊢
  have hnn : n ≤ 140737488355328 := by have := hN0.rc; dsimp only at this; omega
  have hX := hid_mk (((Blk.new w 30 #[.int .i64 id, .int .i64 t, .int .i64 v, .int .i64 base, .int .i64 bt, .slice RA n Rc, .string s, .slice VA m Vc, .int .i64 role, .int .i64 lead, .int .i64 timer, .int .i64 commit, .slice GA gn Gc, .slice PA pn Pc]).alloc (.cells #[.int .i64 kind, .int .i64 fr, .int .i64 mto, .int .i64 mt, .bool ok, .int .i64 index, .int .i64 lterm, .slice QA qn Qc, .int .i64 mcommit, .string ms, .slice UA un Uc] 33)).alloc (.cells #[.int .i64 0, .int .i64 0, .int .i64 0, .int .i64 0, .int .i64 0, .slice none 0 0, .string ⟨#[]⟩, .slice none 0 0, .int .i64 0, .int .i64 0, .int .i64 0, .int .i64 0, .slice none 0 0, .slice none 0 0] 30))
  have hM : Hid (Blk (((w.alloc (.cells #[.int .i64 id, .int .i64 t, .int .i64 v, .int .i64 base, .int .i64 bt, .slice RA n Rc, .string s, .slice VA m Vc, .int .i64 role, .int .i64 lead, .int .i64 timer, .int .i64 commit, .slice GA gn Gc, .slice PA pn Pc] 30)).alloc (.cells #[.int .i64 kind, .int .i64 fr, .int .i64 mto, .int .i64 mt, .bool ok, .int .i64 index, .int .i64 lterm, .slice QA qn Qc, .int .i64 mcommit, .string ms, .slice UA un Uc] 33)).alloc (.cells #[.int .i64 0, .int .i64 0, .int .i64 0, .int .i64 0, .int .i64 0, .slice none 0 0, .string ⟨#[]⟩, .slice none 0 0, .int .i64 0, .int .i64 0, .int .i64 0, .int .i64 0, .slice none 0 0, .slice none 0 0] 30)) (w.heap.size + 1) 33 #[.int .i64 kind, .int .i64 fr, .int .i64 mto, .int .i64 mt, .bool ok, .int .i64 index, .int .i64 lterm, .slice QA qn Qc, .int .i64 mcommit, .string ms, .slice UA un Uc]) := (Blk.new_ (by simp)).alloc _
  have hY : Hid (Blk (((w.alloc (.cells #[.int .i64 id, .int .i64 t, .int .i64 v, .int .i64 base, .int .i64 bt, .slice RA n Rc, .string s, .slice VA m Vc, .int .i64 role, .int .i64 lead, .int .i64 timer, .int .i64 commit, .slice GA gn Gc, .slice PA pn Pc] 30)).alloc (.cells #[.int .i64 kind, .int .i64 fr, .int .i64 mto, .int .i64 mt, .bool ok, .int .i64 index, .int .i64 lterm, .slice QA qn Qc, .int .i64 mcommit, .string ms, .slice UA un Uc] 33)).alloc (.cells #[.int .i64 0, .int .i64 0, .int .i64 0, .int .i64 0, .int .i64 0, .slice none 0 0, .string ⟨#[]⟩, .slice none 0 0, .int .i64 0, .int .i64 0, .int .i64 0, .int .i64 0, .slice none 0 0, .slice none 0 0] 30)) (w.heap.size + 1 + 1) 30 #[.int .i64 0, .int .i64 0, .int .i64 0, .int .i64 0, .int .i64 0, .slice none 0 0, .string ⟨#[]⟩, .slice none 0 0, .int .i64 0, .int .i64 0, .int .i64 0, .int .i64 0, .slice none 0 0, .slice none 0 0]) := Blk.new_ (by simp)
  refine calls_of_wpQ Tryz.func14 rfl ?_
  intro Q hQ
  simp only [Tryz.ntmps14, List.size_toArray, List.length_cons, List.length_nil, Nat.reduceAdd, Nat.reduceSub, Array.replicate_succ, Array.replicate_zero, List.push_toArray, List.append_toArray, List.nil_append, List.cons_append]
  go_wp2_with fail
  refine (hER _ (B := B) (hN0.to (by go_grown)) (ht.to (by go_grown))).mono ?_
  rw [hzr.out]
  rintro e w1 ⟨rfl, hb1⟩
  have q1 := (after (w := w) hb1 (by go_grown)).1
  replace hX := hid_mk (hX.out.keep (after hb1 (by go_grown)).1)
  replace hY := hid_mk (hY.out.keep (after hb1 (by go_grown)).1)
  replace hM := hid_mk (hM.out.keep (after hb1 (by go_grown)).1)
  clear hb1
  obtain ⟨xl, x0, x1, x2, x3, x4, x5, x6, x7, x8, x9, x10, x11, x12, x13, xf0, xf1, xf2, xf3, xf4, xf5, xf6, xf7, xf8, xf9, xf10, xf11, xf12, xf13⟩ := blk14f hX.out
  obtain ⟨yl, y0, y1, y2, y3, y4, y5, y6, y7, y8, y9, y10, y11, y12, y13, yf0, yf1, yf2, yf3, yf4, yf5, yf6, yf7, yf8, yf9, yf10, yf11, yf12, yf13⟩ := blk14f hY.out
  obtain ⟨ml, m0, m1, m2, m3, m4, m5, m6, m7, m8, m9, m10⟩ := blk11v hM.out
  cases zr
  case false =>
    have hno := hid_mk (hNo.out (rfl))
    go_wp2
    clear xl x0 x1 x2 x3 x4 x5 x6 x7 x8 x9 x10 x11 x12 x13 xf0 xf1 xf2 xf3 xf4 xf5 xf6 xf7 xf8 xf9 xf10 xf11 xf12 xf13 yl y0 y1 y2 y3 y4 y5 y6 y7 y8 y9 y10 y11 y12 y13 yf0 yf1 yf2 yf3 yf4 yf5 yf6 yf7 yf8 yf9 yf10 yf11 yf12 yf13 ml m0 m1 m2 m3 m4 m5 m6 m7 m8 m9 m10
    have kfin := set14_blk hY.out (.int .i64 id) (.int .i64 t) (.int .i64 v) (.int .i64 base) (.int .i64 bt) (.slice RA n Rc) (.string s) (.slice VA m Vc) (.int .i64 role) (.int .i64 lead) (.int .i64 timer) (.int .i64 commit) (.slice GA gn Gc) (.slice PA pn Pc)
    unfold set14 at kfin
    obtain ⟨_, r0, r1, r2, r3, r4, r5, r6, r7, r8, r9, r10, r11, r12, r13⟩ := blk14c kfin
    refine ends_ret hQ (v := .tuple #[.agg #[.int .i64 id, .int .i64 t, .int .i64 v, .int .i64 base, .int .i64 bt, .slice RA n Rc, .string s, .slice VA m Vc, .int .i64 role, .int .i64 lead, .int .i64 timer, .int .i64 commit, .slice GA gn Gc, .slice PA pn Pc], .slice none 0 0]) (by simp [results, Tryz.results14, go_sem, r0, r1, r2, r3, r4, r5, r6, r7, r8, r9, r10, r11, r12, r13]) rfl ?_
    exact ⟨⟨none, 0, 0, by rw [hno.out.1]; rfl, by rw [hno.out.2]; exact mgs_nil, Nat.le_refl _⟩, set14_below (.int .i64 id) (.int .i64 t) (.int .i64 v) (.int .i64 base) (.int .i64 bt) (.slice RA n Rc) (.string s) (.slice VA m Vc) (.int .i64 role) (.int .i64 lead) (.int .i64 timer) (.int .i64 commit) (.slice GA gn Gc) (.slice PA pn Pc) q1 (by omega)⟩
  go_wp2_with fail
  clear xl x0 x1 x2 x3 x4 x5 x6 x7 x8 x9 x10 x11 x12 x13 xf0 xf1 xf2 xf3 xf4 xf5 xf6 xf7 xf8 xf9 xf10 xf11 xf12 xf13 yl y0 y1 y2 y3 y4 y5 y6 y7 y8 y9 y10 y11 y12 y13 yf0 yf1 yf2 yf3 yf4 yf5 yf6 yf7 yf8 yf9 yf10 yf11 yf12 yf13 ml m0 m1 m2 m3 m4 m5 m6 m7 m8 m9 m10
  refine (hEM _ (B := B) (hM0.to (by go_grown))).mono ?_
  rw [hzm.out]
  rintro e w2 ⟨rfl, hb1⟩
  have q2 := (after (w := w) hb1 (by go_grown)).1
  replace hX := hid_mk (hX.out.keep (after hb1 (by go_grown)).1)
  replace hY := hid_mk (hY.out.keep (after hb1 (by go_grown)).1)
  replace hM := hid_mk (hM.out.keep (after hb1 (by go_grown)).1)
  clear hb1
  obtain ⟨xl, x0, x1, x2, x3, x4, x5, x6, x7, x8, x9, x10, x11, x12, x13, xf0, xf1, xf2, xf3, xf4, xf5, xf6, xf7, xf8, xf9, xf10, xf11, xf12, xf13⟩ := blk14f hX.out
  obtain ⟨yl, y0, y1, y2, y3, y4, y5, y6, y7, y8, y9, y10, y11, y12, y13, yf0, yf1, yf2, yf3, yf4, yf5, yf6, yf7, yf8, yf9, yf10, yf11, yf12, yf13⟩ := blk14f hY.out
  obtain ⟨ml, m0, m1, m2, m3, m4, m5, m6, m7, m8, m9, m10⟩ := blk11v hM.out
  cases zm
  case false =>
    have hno := hid_mk (hNo.out (rfl))
    go_wp2
    clear xl x0 x1 x2 x3 x4 x5 x6 x7 x8 x9 x10 x11 x12 x13 xf0 xf1 xf2 xf3 xf4 xf5 xf6 xf7 xf8 xf9 xf10 xf11 xf12 xf13 yl y0 y1 y2 y3 y4 y5 y6 y7 y8 y9 y10 y11 y12 y13 yf0 yf1 yf2 yf3 yf4 yf5 yf6 yf7 yf8 yf9 yf10 yf11 yf12 yf13 ml m0 m1 m2 m3 m4 m5 m6 m7 m8 m9 m10
    have kfin := set14_blk hY.out (.int .i64 id) (.int .i64 t) (.int .i64 v) (.int .i64 base) (.int .i64 bt) (.slice RA n Rc) (.string s) (.slice VA m Vc) (.int .i64 role) (.int .i64 lead) (.int .i64 timer) (.int .i64 commit) (.slice GA gn Gc) (.slice PA pn Pc)
    unfold set14 at kfin
    obtain ⟨_, r0, r1, r2, r3, r4, r5, r6, r7, r8, r9, r10, r11, r12, r13⟩ := blk14c kfin
    refine ends_ret hQ (v := .tuple #[.agg #[.int .i64 id, .int .i64 t, .int .i64 v, .int .i64 base, .int .i64 bt, .slice RA n Rc, .string s, .slice VA m Vc, .int .i64 role, .int .i64 lead, .int .i64 timer, .int .i64 commit, .slice GA gn Gc, .slice PA pn Pc], .slice none 0 0]) (by simp [results, Tryz.results14, go_sem, r0, r1, r2, r3, r4, r5, r6, r7, r8, r9, r10, r11, r12, r13]) rfl ?_
    exact ⟨⟨none, 0, 0, by rw [hno.out.1]; rfl, by rw [hno.out.2]; exact mgs_nil, Nat.le_refl _⟩, set14_below (.int .i64 id) (.int .i64 t) (.int .i64 v) (.int .i64 base) (.int .i64 bt) (.slice RA n Rc) (.string s) (.slice VA m Vc) (.int .i64 role) (.int .i64 lead) (.int .i64 timer) (.int .i64 commit) (.slice GA gn Gc) (.slice PA pn Pc) q2 (by omega)⟩
  by_cases k1 : kind = 1
  case neg =>
    have k1' : (kind == 1) = false := by simpa using k1
    have k1n := hid_mk k1'
    replace k1 := hid_mk k1
    have hno := hid_mk (hNo.out (by rw [k1n.out]; rfl))
    go_wp2
    clear xl x0 x1 x2 x3 x4 x5 x6 x7 x8 x9 x10 x11 x12 x13 xf0 xf1 xf2 xf3 xf4 xf5 xf6 xf7 xf8 xf9 xf10 xf11 xf12 xf13 yl y0 y1 y2 y3 y4 y5 y6 y7 y8 y9 y10 y11 y12 y13 yf0 yf1 yf2 yf3 yf4 yf5 yf6 yf7 yf8 yf9 yf10 yf11 yf12 yf13 ml m0 m1 m2 m3 m4 m5 m6 m7 m8 m9 m10
    have kfin := set14_blk hY.out (.int .i64 id) (.int .i64 t) (.int .i64 v) (.int .i64 base) (.int .i64 bt) (.slice RA n Rc) (.string s) (.slice VA m Vc) (.int .i64 role) (.int .i64 lead) (.int .i64 timer) (.int .i64 commit) (.slice GA gn Gc) (.slice PA pn Pc)
    unfold set14 at kfin
    obtain ⟨_, r0, r1, r2, r3, r4, r5, r6, r7, r8, r9, r10, r11, r12, r13⟩ := blk14c kfin
    refine ends_ret hQ (v := .tuple #[.agg #[.int .i64 id, .int .i64 t, .int .i64 v, .int .i64 base, .int .i64 bt, .slice RA n Rc, .string s, .slice VA m Vc, .int .i64 role, .int .i64 lead, .int .i64 timer, .int .i64 commit, .slice GA gn Gc, .slice PA pn Pc], .slice none 0 0]) (by simp [results, Tryz.results14, go_sem, r0, r1, r2, r3, r4, r5, r6, r7, r8, r9, r10, r11, r12, r13]) rfl ?_
    exact ⟨⟨none, 0, 0, by rw [hno.out.1]; rfl, by rw [hno.out.2]; exact mgs_nil, Nat.le_refl _⟩, set14_below (.int .i64 id) (.int .i64 t) (.int .i64 v) (.int .i64 base) (.int .i64 bt) (.slice RA n Rc) (.string s) (.slice VA m Vc) (.int .i64 role) (.int .i64 lead) (.int .i64 timer) (.int .i64 commit) (.slice GA gn Gc) (.slice PA pn Pc) q2 (by omega)⟩
  have k1' : (kind == 1) = true := by simpa using k1
  replace k1 := hid_mk k1
  by_cases k2 : mto = id
  case neg =>
    have k2' : (mto == id) = false := by simpa using k2
    have k2n := hid_mk k2'
    replace k2 := hid_mk k2
    have hno := hid_mk (hNo.out (by rw [k2n.out, k1.out]; rfl))
    go_wp2
    clear xl x0 x1 x2 x3 x4 x5 x6 x7 x8 x9 x10 x11 x12 x13 xf0 xf1 xf2 xf3 xf4 xf5 xf6 xf7 xf8 xf9 xf10 xf11 xf12 xf13 yl y0 y1 y2 y3 y4 y5 y6 y7 y8 y9 y10 y11 y12 y13 yf0 yf1 yf2 yf3 yf4 yf5 yf6 yf7 yf8 yf9 yf10 yf11 yf12 yf13 ml m0 m1 m2 m3 m4 m5 m6 m7 m8 m9 m10
    have kfin := set14_blk hY.out (.int .i64 id) (.int .i64 t) (.int .i64 v) (.int .i64 base) (.int .i64 bt) (.slice RA n Rc) (.string s) (.slice VA m Vc) (.int .i64 role) (.int .i64 lead) (.int .i64 timer) (.int .i64 commit) (.slice GA gn Gc) (.slice PA pn Pc)
    unfold set14 at kfin
    obtain ⟨_, r0, r1, r2, r3, r4, r5, r6, r7, r8, r9, r10, r11, r12, r13⟩ := blk14c kfin
    refine ends_ret hQ (v := .tuple #[.agg #[.int .i64 id, .int .i64 t, .int .i64 v, .int .i64 base, .int .i64 bt, .slice RA n Rc, .string s, .slice VA m Vc, .int .i64 role, .int .i64 lead, .int .i64 timer, .int .i64 commit, .slice GA gn Gc, .slice PA pn Pc], .slice none 0 0]) (by simp [results, Tryz.results14, go_sem, r0, r1, r2, r3, r4, r5, r6, r7, r8, r9, r10, r11, r12, r13]) rfl ?_
    exact ⟨⟨none, 0, 0, by rw [hno.out.1]; rfl, by rw [hno.out.2]; exact mgs_nil, Nat.le_refl _⟩, set14_below (.int .i64 id) (.int .i64 t) (.int .i64 v) (.int .i64 base) (.int .i64 bt) (.slice RA n Rc) (.string s) (.slice VA m Vc) (.int .i64 role) (.int .i64 lead) (.int .i64 timer) (.int .i64 commit) (.slice GA gn Gc) (.slice PA pn Pc) q2 (by omega)⟩
  have k2' : (mto == id) = true := by simpa using k2
  replace k2 := hid_mk k2
  by_cases k3 : mt ≤ t
  case neg =>
    have k3n := hid_mk (show decide (mt ≤ t) = false by simpa using k3)
    have k3' : t < mt := by omega
    replace k3 := hid_mk k3
    have hno := hid_mk (hNo.out (by rw [k3n.out, k2.out, k1.out]; simp))
    go_wp2
    clear xl x0 x1 x2 x3 x4 x5 x6 x7 x8 x9 x10 x11 x12 x13 xf0 xf1 xf2 xf3 xf4 xf5 xf6 xf7 xf8 xf9 xf10 xf11 xf12 xf13 yl y0 y1 y2 y3 y4 y5 y6 y7 y8 y9 y10 y11 y12 y13 yf0 yf1 yf2 yf3 yf4 yf5 yf6 yf7 yf8 yf9 yf10 yf11 yf12 yf13 ml m0 m1 m2 m3 m4 m5 m6 m7 m8 m9 m10
    have kfin := set14_blk hY.out (.int .i64 id) (.int .i64 t) (.int .i64 v) (.int .i64 base) (.int .i64 bt) (.slice RA n Rc) (.string s) (.slice VA m Vc) (.int .i64 role) (.int .i64 lead) (.int .i64 timer) (.int .i64 commit) (.slice GA gn Gc) (.slice PA pn Pc)
    unfold set14 at kfin
    obtain ⟨_, r0, r1, r2, r3, r4, r5, r6, r7, r8, r9, r10, r11, r12, r13⟩ := blk14c kfin
    refine ends_ret hQ (v := .tuple #[.agg #[.int .i64 id, .int .i64 t, .int .i64 v, .int .i64 base, .int .i64 bt, .slice RA n Rc, .string s, .slice VA m Vc, .int .i64 role, .int .i64 lead, .int .i64 timer, .int .i64 commit, .slice GA gn Gc, .slice PA pn Pc], .slice none 0 0]) (by simp [results, Tryz.results14, go_sem, r0, r1, r2, r3, r4, r5, r6, r7, r8, r9, r10, r11, r12, r13]) rfl ?_
    exact ⟨⟨none, 0, 0, by rw [hno.out.1]; rfl, by rw [hno.out.2]; exact mgs_nil, Nat.le_refl _⟩, set14_below (.int .i64 id) (.int .i64 t) (.int .i64 v) (.int .i64 base) (.int .i64 bt) (.slice RA n Rc) (.string s) (.slice VA m Vc) (.int .i64 role) (.int .i64 lead) (.int .i64 timer) (.int .i64 commit) (.slice GA gn Gc) (.slice PA pn Pc) q2 (by omega)⟩
  have k3n := hid_mk (show decide (mt ≤ t) = true by simpa using k3)
  have hy0 := hid_mk (hYes.out (by rw [k1.out, k2.out, k3n.out]; simp))
  clear hYes hNo
  go_upto_region 3 with fail
  go_cut [8] from 9 (fun p8 wx => ∃ g : Bool, p8 = .bool g ∧ Hid ((mt == t && ((v == 0 || v == fr) && zn)) = g) ∧ Below w.heap.size w wx ∧ Hid (Blk wx w.heap.size 30 #[.int .i64 id, .int .i64 t, .int .i64 v, .int .i64 base, .int .i64 bt, .slice RA n Rc, .string s, .slice VA m Vc, .int .i64 role, .int .i64 lead, .int .i64 timer, .int .i64 commit, .slice GA gn Gc, .slice PA pn Pc]) ∧ Hid (Blk wx (w.heap.size + 1) 33 #[.int .i64 kind, .int .i64 fr, .int .i64 mto, .int .i64 mt, .bool ok, .int .i64 index, .int .i64 lterm, .slice QA qn Qc, .int .i64 mcommit, .string ms, .slice UA un Uc]) ∧ Hid (Blk wx (w.heap.size + 1 + 1) 30 #[.int .i64 0, .int .i64 0, .int .i64 0, .int .i64 0, .int .i64 0, .slice none 0 0, .string ⟨#[]⟩, .slice none 0 0, .int .i64 0, .int .i64 0, .int .i64 0, .int .i64 0, .slice none 0 0, .slice none 0 0]))
  case first =>
    by_cases g1 : mt = t
    case neg =>
      have g1' : (mt == t) = false := by simpa using g1
      have g1n := hid_mk g1'
      replace g1 := hid_mk g1
      go_wp2
      go_meet
      exact ⟨false, rfl, by rw [Hid, g1n.out]; rfl, q2, hX, hM, hY⟩
    have g1' : (mt == t) = true := by simpa using g1
    have g1n := hid_mk g1'
    replace g1 := hid_mk g1
    by_cases g2 : v = 0
    case pos =>
      have g2' : (v == 0) = true := by simpa using g2
      have g2n := hid_mk g2'
      replace g2 := hid_mk g2
      go_wp2_with fail
      clear xl x0 x1 x2 x3 x4 x5 x6 x7 x8 x9 x10 x11 x12 x13 xf0 xf1 xf2 xf3 xf4 xf5 xf6 xf7 xf8 xf9 xf10 xf11 xf12 xf13 yl y0 y1 y2 y3 y4 y5 y6 y7 y8 y9 y10 y11 y12 y13 yf0 yf1 yf2 yf3 yf4 yf5 yf6 yf7 yf8 yf9 yf10 yf11 yf12 yf13 ml m0 m1 m2 m3 m4 m5 m6 m7 m8 m9 m10
      refine (Newer_any ⟨base, bt, rs⟩ index lterm RA n Rc _ (B := B) hnn (hr.to (by go_grown))).mono ?_
      rw [hsh.out (by first | rfl | trivial), hzn.out]
      rintro e w3 ⟨rfl, hb1⟩
      have q3 := (after (w := w) hb1 (by go_grown)).1
      replace hX := hid_mk (hX.out.keep (after hb1 (by go_grown)).1)
      replace hY := hid_mk (hY.out.keep (after hb1 (by go_grown)).1)
      replace hM := hid_mk (hM.out.keep (after hb1 (by go_grown)).1)
      clear hb1
      obtain ⟨xl, x0, x1, x2, x3, x4, x5, x6, x7, x8, x9, x10, x11, x12, x13, xf0, xf1, xf2, xf3, xf4, xf5, xf6, xf7, xf8, xf9, xf10, xf11, xf12, xf13⟩ := blk14f hX.out
      obtain ⟨yl, y0, y1, y2, y3, y4, y5, y6, y7, y8, y9, y10, y11, y12, y13, yf0, yf1, yf2, yf3, yf4, yf5, yf6, yf7, yf8, yf9, yf10, yf11, yf12, yf13⟩ := blk14f hY.out
      obtain ⟨ml, m0, m1, m2, m3, m4, m5, m6, m7, m8, m9, m10⟩ := blk11v hM.out
      cases zn
      case false =>
        go_wp2
        go_meet
        exact ⟨false, rfl, by simp [Hid], q3, hX, hM, hY⟩
      case true =>
        go_wp2
        go_meet
        exact ⟨true, rfl, by rw [Hid, g1n.out, g2n.out]; rfl, q3, hX, hM, hY⟩
    have g2' : (v == 0) = false := by simpa using g2
    have g2n := hid_mk g2'
    replace g2 := hid_mk g2
    by_cases g3 : v = fr
    case neg =>
      have g3' : (v == fr) = false := by simpa using g3
      have g3n := hid_mk g3'
      replace g3 := hid_mk g3
      go_wp2
      go_meet
      exact ⟨false, rfl, by rw [Hid, g1n.out, g2n.out, g3n.out]; rfl, q2, hX, hM, hY⟩
    have g3' : (v == fr) = true := by simpa using g3
    have g3n := hid_mk g3'
    replace g3 := hid_mk g3
    go_wp2_with fail
    clear xl x0 x1 x2 x3 x4 x5 x6 x7 x8 x9 x10 x11 x12 x13 xf0 xf1 xf2 xf3 xf4 xf5 xf6 xf7 xf8 xf9 xf10 xf11 xf12 xf13 yl y0 y1 y2 y3 y4 y5 y6 y7 y8 y9 y10 y11 y12 y13 yf0 yf1 yf2 yf3 yf4 yf5 yf6 yf7 yf8 yf9 yf10 yf11 yf12 yf13 ml m0 m1 m2 m3 m4 m5 m6 m7 m8 m9 m10
    refine (Newer_any ⟨base, bt, rs⟩ index lterm RA n Rc _ (B := B) hnn (hr.to (by go_grown))).mono ?_
    rw [hsh.out (by first | rfl | trivial), hzn.out]
    rintro e w3 ⟨rfl, hb1⟩
    have q3 := (after (w := w) hb1 (by go_grown)).1
    replace hX := hid_mk (hX.out.keep (after hb1 (by go_grown)).1)
    replace hY := hid_mk (hY.out.keep (after hb1 (by go_grown)).1)
    replace hM := hid_mk (hM.out.keep (after hb1 (by go_grown)).1)
    clear hb1
    obtain ⟨xl, x0, x1, x2, x3, x4, x5, x6, x7, x8, x9, x10, x11, x12, x13, xf0, xf1, xf2, xf3, xf4, xf5, xf6, xf7, xf8, xf9, xf10, xf11, xf12, xf13⟩ := blk14f hX.out
    obtain ⟨yl, y0, y1, y2, y3, y4, y5, y6, y7, y8, y9, y10, y11, y12, y13, yf0, yf1, yf2, yf3, yf4, yf5, yf6, yf7, yf8, yf9, yf10, yf11, yf12, yf13⟩ := blk14f hY.out
    obtain ⟨ml, m0, m1, m2, m3, m4, m5, m6, m7, m8, m9, m10⟩ := blk11v hM.out
    cases zn
    case false =>
      go_wp2
      go_meet
      exact ⟨false, rfl, by simp [Hid], q3, hX, hM, hY⟩
    case true =>
      go_wp2
      go_meet
      exact ⟨true, rfl, by rw [Hid, g1n.out, g2n.out, g3n.out]; rfl, q3, hX, hM, hY⟩
  case rest =>
    clear xl x0 x1 x2 x3 x4 x5 x6 x7 x8 x9 x10 x11 x12 x13 xf0 xf1 xf2 xf3 xf4 xf5 xf6 xf7 xf8 xf9 xf10 xf11 xf12 xf13 yl y0 y1 y2 y3 y4 y5 y6 y7 y8 y9 y10 y11 y12 y13 yf0 yf1 yf2 yf3 yf4 yf5 yf6 yf7 yf8 yf9 yf10 yf11 yf12 yf13 ml m0 m1 m2 m3 m4 m5 m6 m7 m8 m9 m10
    clear hX hM hY q1 q2
    obtain ⟨g, rfl, hg, qc, hX, hM, hY⟩ := hcut
    obtain ⟨xl, x0, x1, x2, x3, x4, x5, x6, x7, x8, x9, x10, x11, x12, x13, xf0, xf1, xf2, xf3, xf4, xf5, xf6, xf7, xf8, xf9, xf10, xf11, xf12, xf13⟩ := blk14f hX.out
    obtain ⟨yl, y0, y1, y2, y3, y4, y5, y6, y7, y8, y9, y10, y11, y12, y13, yf0, yf1, yf2, yf3, yf4, yf5, yf6, yf7, yf8, yf9, yf10, yf11, yf12, yf13⟩ := blk14f hY.out
    obtain ⟨ml, m0, m1, m2, m3, m4, m5, m6, m7, m8, m9, m10⟩ := blk11v hM.out
    cases g
    case false =>
      go_wp2
      have hfin := hid_mk (hy0.out false (hg.out))
      have hX2 := hX.out
      have hY2 := hY.out
      have hM2 := hM.out
      have q4 := qc
      clear xl x0 x1 x2 x3 x4 x5 x6 x7 x8 x9 x10 x11 x12 x13 xf0 xf1 xf2 xf3 xf4 xf5 xf6 xf7 xf8 xf9 xf10 xf11 xf12 xf13 yl y0 y1 y2 y3 y4 y5 y6 y7 y8 y9 y10 y11 y12 y13 yf0 yf1 yf2 yf3 yf4 yf5 yf6 yf7 yf8 yf9 yf10 yf11 yf12 yf13 ml m0 m1 m2 m3 m4 m5 m6 m7 m8 m9 m10
      obtain ⟨wq, hwq⟩ : ∃ wq, wc = wq := ⟨_, rfl⟩
      rw [hwq] at hX2 hY2 hM2 q4 ⊢
      replace hwq := hid_mk hwq
      replace hX := hid_mk hX2
      replace hY := hid_mk hY2
      replace hM := hid_mk hM2
      clear hX2 hY2 hM2
      obtain ⟨xl, x0, x1, x2, x3, x4, x5, x6, x7, x8, x9, x10, x11, x12, x13, xf0, xf1, xf2, xf3, xf4, xf5, xf6, xf7, xf8, xf9, xf10, xf11, xf12, xf13⟩ := blk14f hX.out
      obtain ⟨yl, y0, y1, y2, y3, y4, y5, y6, y7, y8, y9, y10, y11, y12, y13, yf0, yf1, yf2, yf3, yf4, yf5, yf6, yf7, yf8, yf9, yf10, yf11, yf12, yf13⟩ := blk14f hY.out
      obtain ⟨ml, m0, m1, m2, m3, m4, m5, m6, m7, m8, m9, m10⟩ := blk11v hM.out
      clear m0 m2 m3 m4 m5 m6 m7 m8 m9 m10
      obtain ⟨ws, hws⟩ : ∃ ws, set14 wq (w.heap.size + 1 + 1) (.int .i64 id) (.int .i64 t) (.int .i64 v) (.int .i64 base) (.int .i64 bt) (.slice RA n Rc) (.string s) (.slice VA m Vc) (.int .i64 role) (.int .i64 lead) (.int .i64 timer) (.int .i64 commit) (.slice GA gn Gc) (.slice PA pn Pc) = ws := ⟨_, rfl⟩
      have hsz : ws.heap.size = wq.heap.size := by rw [← hws]; unfold set14; simp
      have ks : Blk ws (w.heap.size + 1 + 1) 30 #[.int .i64 id, .int .i64 t, .int .i64 v, .int .i64 base, .int .i64 bt, .slice RA n Rc, .string s, .slice VA m Vc, .int .i64 role, .int .i64 lead, .int .i64 timer, .int .i64 commit, .slice GA gn Gc, .slice PA pn Pc] := by rw [← hws]; exact set14_blk hY.out (.int .i64 id) (.int .i64 t) (.int .i64 v) (.int .i64 base) (.int .i64 bt) (.slice RA n Rc) (.string s) (.slice VA m Vc) (.int .i64 role) (.int .i64 lead) (.int .i64 timer) (.int .i64 commit) (.slice GA gn Gc) (.slice PA pn Pc)
      have qs : Below w.heap.size w ws := by rw [← hws]; exact set14_below (.int .i64 id) (.int .i64 t) (.int .i64 v) (.int .i64 base) (.int .i64 bt) (.slice RA n Rc) (.string s) (.slice VA m Vc) (.int .i64 role) (.int .i64 lead) (.int .i64 timer) (.int .i64 commit) (.slice GA gn Gc) (.slice PA pn Pc) q4 (by omega)
      obtain ⟨wz, hwz⟩ : ∃ wz, (ws.alloc (.cells #[.int .i64 2, .int .i64 id, .int .i64 fr, .int .i64 t, .bool false, .int .i64 0, .int .i64 0, .slice none 0 0, .int .i64 0, .string ⟨#[]⟩, .slice none 0 0] 33)).drew = wz := ⟨_, rfl⟩
      have kz : Blk wz (w.heap.size + 1 + 1) 30 #[.int .i64 id, .int .i64 t, .int .i64 v, .int .i64 base, .int .i64 bt, .slice RA n Rc, .string s, .slice VA m Vc, .int .i64 role, .int .i64 lead, .int .i64 timer, .int .i64 commit, .slice GA gn Gc, .slice PA pn Pc] := by rw [← hwz]; exact (ks.alloc _).drew
      have kM : Blk wz wq.heap.size 33 #[.int .i64 2, .int .i64 id, .int .i64 fr, .int .i64 t, .bool false, .int .i64 0, .int .i64 0, .slice none 0 0, .int .i64 0, .string ⟨#[]⟩, .slice none 0 0] := by rw [← hwz, ← hsz]; exact (Blk.new _ _ _).drew
      have qz : Below w.heap.size w wz := by rw [← hwz]; go_grown
      unfold set14 at hws
      replace hws := hid_mk hws
      replace hwz := hid_mk hwz
      replace hsz := hid_mk hsz
      go_region_held3 (fun w' => w'.cell? ⟨w.heap.size, 0, none⟩ = some (.int .i64 id) ∧ w'.cell? ⟨w.heap.size, 1, none⟩ = some (.int .i64 t) ∧ w'.cell? ⟨w.heap.size, 2, none⟩ = some (.int .i64 v) ∧ w'.cell? ⟨w.heap.size, 3, none⟩ = some (.int .i64 base) ∧ w'.cell? ⟨w.heap.size, 4, none⟩ = some (.int .i64 bt) ∧ w'.cell? ⟨w.heap.size, 5, none⟩ = some (.slice RA n Rc) ∧ w'.cell? ⟨w.heap.size, 6, none⟩ = some (.string s) ∧ w'.cell? ⟨w.heap.size, 7, none⟩ = some (.slice VA m Vc) ∧ w'.cell? ⟨w.heap.size, 8, none⟩ = some (.int .i64 role) ∧ w'.cell? ⟨w.heap.size, 9, none⟩ = some (.int .i64 lead) ∧ w'.cell? ⟨w.heap.size, 10, none⟩ = some (.int .i64 timer) ∧ w'.cell? ⟨w.heap.size, 11, none⟩ = some (.int .i64 commit) ∧ w'.cell? ⟨w.heap.size, 12, none⟩ = some (.slice GA gn Gc) ∧ w'.cell? ⟨w.heap.size, 13, none⟩ = some (.slice PA pn Pc) ∧ w'.cell? ⟨w.heap.size + 1, 1, none⟩ = some (.int .i64 fr)) ((refine voteS (t := 30) (t' := 33) (cs' := #[.int .i64 kind, .int .i64 fr, .int .i64 mto, .int .i64 mt, .bool ok, .int .i64 index, .int .i64 lterm, .slice QA qn Qc, .int .i64 mcommit, .string ms, .slice UA un Uc]) rfl ?_ ?_ <;> (repeat (first | with_reducible refine Blk.far ?_ (by dsimp only; omega) _ | with_reducible refine Blk.alloc ?_ _ | with_reducible refine Blk.drew ?_ | exact hX.out | exact hM.out)))) (fail)
      all_goals (
        rw [hws.out, hwz.out]
        clear hws hwz hsz ks qs
        clear xl x0 x1 x2 x3 x4 x5 x6 x7 x8 x9 x10 x11 x12 x13 xf0 xf1 xf2 xf3 xf4 xf5 xf6 xf7 xf8 xf9 xf10 xf11 xf12 xf13 yl y0 y1 y2 y3 y4 y5 y6 y7 y8 y9 y10 y11 y12 y13 yf0 yf1 yf2 yf3 yf4 yf5 yf6 yf7 yf8 yf9 yf10 yf11 yf12 yf13 ml m1
        obtain ⟨_, r0, r1, r2, r3, r4, r5, r6, r7, r8, r9, r10, r11, r12, r13⟩ := blk14c kz
        go_wp2
        refine ends_ret hQ (v := .tuple #[.agg #[.int .i64 id, .int .i64 t, .int .i64 v, .int .i64 base, .int .i64 bt, .slice RA n Rc, .string s, .slice VA m Vc, .int .i64 role, .int .i64 lead, .int .i64 timer, .int .i64 commit, .slice GA gn Gc, .slice PA pn Pc], .slice (some ⟨wq.heap.size, 0, none⟩) 1 1]) (by simp [results, Tryz.results14, go_sem, r0, r1, r2, r3, r4, r5, r6, r7, r8, r9, r10, r11, r12, r13]) rfl ?_
        refine ⟨⟨some ⟨wq.heap.size, 0, none⟩, 1, 1, by rw [hfin.out.1]; rfl, ?_, Nat.le_refl _⟩, qz⟩
        rw [hfin.out.2]
        exact mgs_one kM rfl rfl rfl)
    case true =>
      go_wp2
      have hfin := hid_mk (hy0.out true (hg.out))
      have hX2 : Blk ((wc.setCell ⟨w.heap.size, 2, none⟩ (.int .i64 fr)).setCell ⟨w.heap.size, 10, none⟩ (.int .i64 (min (max d 0) 1048576))) w.heap.size 30 #[.int .i64 id, .int .i64 t, .int .i64 fr, .int .i64 base, .int .i64 bt, .slice RA n Rc, .string s, .slice VA m Vc, .int .i64 role, .int .i64 lead, .int .i64 (min (max d 0) 1048576), .int .i64 commit, .slice GA gn Gc, .slice PA pn Pc] := (hX.out.set_ 2 _).set_ 10 _
      have hY2 := (hY.out.far (p := ⟨w.heap.size, 2, none⟩) (by dsimp only; omega) (.int .i64 fr)).far (p := ⟨w.heap.size, 10, none⟩) (by dsimp only; omega) (.int .i64 (min (max d 0) 1048576))
      have hM2 := (hM.out.far (p := ⟨w.heap.size, 2, none⟩) (by dsimp only; omega) (.int .i64 fr)).far (p := ⟨w.heap.size, 10, none⟩) (by dsimp only; omega) (.int .i64 (min (max d 0) 1048576))
      have q4 := (qc.setCell (p := ⟨w.heap.size, 2, none⟩) (Nat.le_refl _) (.int .i64 fr)).setCell (p := ⟨w.heap.size, 10, none⟩) (Nat.le_refl _) (.int .i64 (min (max d 0) 1048576))
      clear xl x0 x1 x2 x3 x4 x5 x6 x7 x8 x9 x10 x11 x12 x13 xf0 xf1 xf2 xf3 xf4 xf5 xf6 xf7 xf8 xf9 xf10 xf11 xf12 xf13 yl y0 y1 y2 y3 y4 y5 y6 y7 y8 y9 y10 y11 y12 y13 yf0 yf1 yf2 yf3 yf4 yf5 yf6 yf7 yf8 yf9 yf10 yf11 yf12 yf13 ml m0 m1 m2 m3 m4 m5 m6 m7 m8 m9 m10
      obtain ⟨wq, hwq⟩ : ∃ wq, ((wc.setCell ⟨w.heap.size, 2, none⟩ (.int .i64 fr)).setCell ⟨w.heap.size, 10, none⟩ (.int .i64 (min (max d 0) 1048576))) = wq := ⟨_, rfl⟩
      rw [hwq] at hX2 hY2 hM2 q4 ⊢
      replace hwq := hid_mk hwq
      replace hX := hid_mk hX2
      replace hY := hid_mk hY2
      replace hM := hid_mk hM2
      clear hX2 hY2 hM2
      obtain ⟨xl, x0, x1, x2, x3, x4, x5, x6, x7, x8, x9, x10, x11, x12, x13, xf0, xf1, xf2, xf3, xf4, xf5, xf6, xf7, xf8, xf9, xf10, xf11, xf12, xf13⟩ := blk14f hX.out
      obtain ⟨yl, y0, y1, y2, y3, y4, y5, y6, y7, y8, y9, y10, y11, y12, y13, yf0, yf1, yf2, yf3, yf4, yf5, yf6, yf7, yf8, yf9, yf10, yf11, yf12, yf13⟩ := blk14f hY.out
      obtain ⟨ml, m0, m1, m2, m3, m4, m5, m6, m7, m8, m9, m10⟩ := blk11v hM.out
      clear m0 m2 m3 m4 m5 m6 m7 m8 m9 m10
      obtain ⟨ws, hws⟩ : ∃ ws, set14 wq (w.heap.size + 1 + 1) (.int .i64 id) (.int .i64 t) (.int .i64 fr) (.int .i64 base) (.int .i64 bt) (.slice RA n Rc) (.string s) (.slice VA m Vc) (.int .i64 role) (.int .i64 lead) (.int .i64 (min (max d 0) 1048576)) (.int .i64 commit) (.slice GA gn Gc) (.slice PA pn Pc) = ws := ⟨_, rfl⟩
      have hsz : ws.heap.size = wq.heap.size := by rw [← hws]; unfold set14; simp
      have ks : Blk ws (w.heap.size + 1 + 1) 30 #[.int .i64 id, .int .i64 t, .int .i64 fr, .int .i64 base, .int .i64 bt, .slice RA n Rc, .string s, .slice VA m Vc, .int .i64 role, .int .i64 lead, .int .i64 (min (max d 0) 1048576), .int .i64 commit, .slice GA gn Gc, .slice PA pn Pc] := by rw [← hws]; exact set14_blk hY.out (.int .i64 id) (.int .i64 t) (.int .i64 fr) (.int .i64 base) (.int .i64 bt) (.slice RA n Rc) (.string s) (.slice VA m Vc) (.int .i64 role) (.int .i64 lead) (.int .i64 (min (max d 0) 1048576)) (.int .i64 commit) (.slice GA gn Gc) (.slice PA pn Pc)
      have qs : Below w.heap.size w ws := by rw [← hws]; exact set14_below (.int .i64 id) (.int .i64 t) (.int .i64 fr) (.int .i64 base) (.int .i64 bt) (.slice RA n Rc) (.string s) (.slice VA m Vc) (.int .i64 role) (.int .i64 lead) (.int .i64 (min (max d 0) 1048576)) (.int .i64 commit) (.slice GA gn Gc) (.slice PA pn Pc) q4 (by omega)
      obtain ⟨wz, hwz⟩ : ∃ wz, (ws.alloc (.cells #[.int .i64 2, .int .i64 id, .int .i64 fr, .int .i64 t, .bool true, .int .i64 0, .int .i64 0, .slice none 0 0, .int .i64 0, .string ⟨#[]⟩, .slice none 0 0] 33)).drew = wz := ⟨_, rfl⟩
      have kz : Blk wz (w.heap.size + 1 + 1) 30 #[.int .i64 id, .int .i64 t, .int .i64 fr, .int .i64 base, .int .i64 bt, .slice RA n Rc, .string s, .slice VA m Vc, .int .i64 role, .int .i64 lead, .int .i64 (min (max d 0) 1048576), .int .i64 commit, .slice GA gn Gc, .slice PA pn Pc] := by rw [← hwz]; exact (ks.alloc _).drew
      have kM : Blk wz wq.heap.size 33 #[.int .i64 2, .int .i64 id, .int .i64 fr, .int .i64 t, .bool true, .int .i64 0, .int .i64 0, .slice none 0 0, .int .i64 0, .string ⟨#[]⟩, .slice none 0 0] := by rw [← hwz, ← hsz]; exact (Blk.new _ _ _).drew
      have qz : Below w.heap.size w wz := by rw [← hwz]; go_grown
      unfold set14 at hws
      replace hws := hid_mk hws
      replace hwz := hid_mk hwz
      replace hsz := hid_mk hsz
      go_region_held3 (fun w' => w'.cell? ⟨w.heap.size, 0, none⟩ = some (.int .i64 id) ∧ w'.cell? ⟨w.heap.size, 1, none⟩ = some (.int .i64 t) ∧ w'.cell? ⟨w.heap.size, 2, none⟩ = some (.int .i64 fr) ∧ w'.cell? ⟨w.heap.size, 3, none⟩ = some (.int .i64 base) ∧ w'.cell? ⟨w.heap.size, 4, none⟩ = some (.int .i64 bt) ∧ w'.cell? ⟨w.heap.size, 5, none⟩ = some (.slice RA n Rc) ∧ w'.cell? ⟨w.heap.size, 6, none⟩ = some (.string s) ∧ w'.cell? ⟨w.heap.size, 7, none⟩ = some (.slice VA m Vc) ∧ w'.cell? ⟨w.heap.size, 8, none⟩ = some (.int .i64 role) ∧ w'.cell? ⟨w.heap.size, 9, none⟩ = some (.int .i64 lead) ∧ w'.cell? ⟨w.heap.size, 10, none⟩ = some (.int .i64 (min (max d 0) 1048576)) ∧ w'.cell? ⟨w.heap.size, 11, none⟩ = some (.int .i64 commit) ∧ w'.cell? ⟨w.heap.size, 12, none⟩ = some (.slice GA gn Gc) ∧ w'.cell? ⟨w.heap.size, 13, none⟩ = some (.slice PA pn Pc) ∧ w'.cell? ⟨w.heap.size + 1, 1, none⟩ = some (.int .i64 fr)) ((refine voteS (t := 30) (t' := 33) (cs' := #[.int .i64 kind, .int .i64 fr, .int .i64 mto, .int .i64 mt, .bool ok, .int .i64 index, .int .i64 lterm, .slice QA qn Qc, .int .i64 mcommit, .string ms, .slice UA un Uc]) rfl ?_ ?_ <;> (repeat (first | with_reducible refine Blk.far ?_ (by dsimp only; omega) _ | with_reducible refine Blk.alloc ?_ _ | with_reducible refine Blk.drew ?_ | exact hX.out | exact hM.out)))) (fail)
      all_goals (
        rw [hws.out, hwz.out]
        clear hws hwz hsz ks qs
        clear xl x0 x1 x2 x3 x4 x5 x6 x7 x8 x9 x10 x11 x12 x13 xf0 xf1 xf2 xf3 xf4 xf5 xf6 xf7 xf8 xf9 xf10 xf11 xf12 xf13 yl y0 y1 y2 y3 y4 y5 y6 y7 y8 y9 y10 y11 y12 y13 yf0 yf1 yf2 yf3 yf4 yf5 yf6 yf7 yf8 yf9 yf10 yf11 yf12 yf13 ml m1
        obtain ⟨_, r0, r1, r2, r3, r4, r5, r6, r7, r8, r9, r10, r11, r12, r13⟩ := blk14c kz
        go_wp2
        refine ends_ret hQ (v := .tuple #[.agg #[.int .i64 id, .int .i64 t, .int .i64 fr, .int .i64 base, .int .i64 bt, .slice RA n Rc, .string s, .slice VA m Vc, .int .i64 role, .int .i64 lead, .int .i64 (min (max d 0) 1048576), .int .i64 commit, .slice GA gn Gc, .slice PA pn Pc], .slice (some ⟨wq.heap.size, 0, none⟩) 1 1]) (by simp [results, Tryz.results14, go_sem, r0, r1, r2, r3, r4, r5, r6, r7, r8, r9, r10, r11, r12, r13]) rfl ?_
        refine ⟨⟨some ⟨wq.heap.size, 0, none⟩, 1, 1, by rw [hfin.out.1]; rfl, ?_, Nat.le_refl _⟩, qz⟩
        rw [hfin.out.2]
        exact mgs_one kM rfl rfl rfl)
end Go.Proofs.YtnaindoeihnmpaaGreatDoor
