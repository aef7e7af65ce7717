/-
  WHAT IS PROVED HERE: what elect.Count hands back of any node and message. Conditions: the slices are of at most 2^47 elements; the library's table and MaxLen stand.
-/
import Derived.Test.YtnaindoeihnmpaaGreatDoorZGCn0
import Derived.Test.YtnaindoeihnmpaaGreatDoorZMay6
import Derived.Deep.DeepCutAuto
namespace Go.Proofs.YtnaindoeihnmpaaGreatDoor
open Go.RowKit

def RetC (w : World) (B : Nat) (N : Nd) (won : Bool) (e : Ending) : Prop := ∃ a, e = .returned (.tuple #[nodeV N a, .bool won]) ∧ NdOk w B N a
theorem countS {w : World} {g h : Nat} {t t' : TypeId} {a0 a1 a2 a3 a4 a5 a6 a7 a8 a9 a10 a11 a12 a13 m1 : Value} {cs' : Array Value} (hm : cs'[1]? = some m1) (hX : Blk w g t #[a0, a1, a2, a3, a4, a5, a6, a7, a8, a9, a10, a11, a12, a13]) (hM : Blk w h t' cs') : w.cell? ⟨g, 0, none⟩ = some a0 ∧ w.cell? ⟨g, 1, none⟩ = some a1 ∧ w.cell? ⟨g, 2, none⟩ = some a2 ∧ w.cell? ⟨g, 3, none⟩ = some a3 ∧ w.cell? ⟨g, 4, none⟩ = some a4 ∧ w.cell? ⟨g, 5, none⟩ = some a5 ∧ w.cell? ⟨g, 6, none⟩ = some a6 ∧ w.cell? ⟨g, 7, none⟩ = some a7 ∧ w.cell? ⟨g, 8, none⟩ = some a8 ∧ w.cell? ⟨g, 9, none⟩ = some a9 ∧ w.cell? ⟨g, 10, none⟩ = some a10 ∧ w.cell? ⟨g, 11, none⟩ = some a11 ∧ w.cell? ⟨g, 12, none⟩ = some a12 ∧ w.cell? ⟨g, 13, none⟩ = some a13 ∧ w.cell? ⟨h, 1, none⟩ = some m1 := ⟨hX.cell 0, hX.cell 1, hX.cell 2, hX.cell 3, hX.cell 4, hX.cell 5, hX.cell 6, hX.cell 7, hX.cell 8, hX.cell 9, hX.cell 10, hX.cell 11, hX.cell 12, hX.cell 13, (hM.cell 1).trans hm⟩
theorem ints14 {w : World} {B g n : Nat} {A : Option Addr} {xs : List Int} {t : TypeId} {a0 a1 a2 a3 a4 a5 a6 a7 a8 a9 a10 a11 a12 a13 : Value} (h : Ints w B A n xs) (k : Blk w g t #[a0, a1, a2, a3, a4, a5, a6, a7, a8, a9, a10, a11, a12, a13]) (hne : 3 ≠ t) (hg : B ≤ g) (b0 b1 b2 b3 b4 b5 b6 b7 b8 b9 b10 b11 b12 b13 : Value) : Ints (set14 w g b0 b1 b2 b3 b4 b5 b6 b7 b8 b9 b10 b11 b12 b13) B A n xs := set14_reads k b0 b1 b2 b3 b4 b5 b6 b7 b8 b9 b10 b11 b12 b13 hg hne h
set_option maxRecDepth 100000 in
set_option maxHeartbeats 12800000 in
theorem Count_any (N : Nd) (a : NdA) (M : Ms) (b : MsA) (w : World) {B : Nat} (hBw : B ≤ w.heap.size) (hN : NdOk w B N a) (hMs : MsOk w B M b) (ht : Tab w) (mm : Int) (hm : w.cell? ⟨0, 0, none⟩ = some (.int .i64 mm)) :
    Calls Tryz.prog 15 #[nodeV N a, msgV M b] w fun e w' => RetC w' B (countN N M) (countW N M) e ∧ Below w.heap.size w w' := by
  have hm2 : Hid (∀ w', Below w.heap.size w w' → w'.cell? ⟨0, 0, none⟩ = some (.int .i64 mm)) := fun w' hb => (hb.cell (p := ⟨0, 0, none⟩) (cell_lt hm)).trans hm
  clear hm
  have hBy : B ≤ w.heap.size + 1 + 1 := by omega
  obtain ⟨zr, hzr⟩ : ∃ z, rightN N = z := ⟨_, rfl⟩
  obtain ⟨zm, hzm⟩ : ∃ z, mayM M = z := ⟨_, rfl⟩
  obtain ⟨N', hN'⟩ : ∃ z, countN N M = z := ⟨_, rfl⟩
  obtain ⟨Wn, hWn⟩ : ∃ z, countW N M = z := ⟨_, rfl⟩
  obtain ⟨vo, hvo⟩ : ∃ z, votersN N = z := ⟨_, rfl⟩
  have hNo : Hid ((zr && (zm && (M.kind == 2 && (M.to == N.id && (M.term == N.h.t && (M.ok && N.role == 1)))))) = false → N' = N ∧ Wn = false) := fun e => by
    have hp : countC N M = false := by unfold countC; rw [hzr, hzm]; exact e
    rw [← hN', ← hWn]
    unfold countN countW
    simp [hp]
  have hYes : Hid ((zr && (zm && (M.kind == 2 && (M.to == N.id && (M.term == N.h.t && (M.ok && N.role == 1)))))) = true → N' = ⟨N.id, N.h, N.role, N.lead, N.timer, N.commit, gotM N.got M.fr, N.ps⟩ ∧ Wn = winsL vo (gotM N.got M.fr)) := fun e => by
    have hp : countC N M = true := by unfold countC; rw [hzr, hzm]; exact e
    rw [← hN', ← hWn, ← hvo]
    unfold countN countW
    simp [hp]
  have hrn : Hid (zr = true → rightJ N.h.l = true ∧ rightL N.h.vs = true ∧ ascL none N.got = true) := fun e => by
    have h := right_n (N := N) (by rw [hzr]; exact e)
    exact ⟨h.1, h.2.1, got_right (by rw [hzr]; exact e)⟩
  rw [hN', hWn]
  replace hzr := hid_mk hzr
  replace hzm := hid_mk hzm
  clear hN' hWn
  have hER := ERight_any N a
  have hEM := EMay_any M b
  have hN0 := hN
  have hM0 := hMs
  obtain ⟨hr, hrc, hrb, hi, hvc, hvb, _, hgi, hgc, hgb, _, _, _⟩ := hN
  clear hMs
  obtain ⟨id, ⟨t, v, ⟨base, bt, rs⟩, s, vs⟩, role, lead, timer, commit, got, ps⟩ := N
  obtain ⟨⟨RA, n, Rc⟩, ⟨VA, m, Vc⟩, ⟨GA, gn, Gc⟩, ⟨PA, pn, Pc⟩⟩ := a
  obtain ⟨kind, fr, mto, mt, ok, index, lterm, mrs, mcommit, ms, mvs⟩ := M
  obtain ⟨⟨QA, qn, Qc⟩, ⟨UA, un, Uc⟩⟩ := b
  unfold votersN at hvo
  unfold nodeV at hER ⊢
  unfold msgV at hEM ⊢
  dsimp only at hr hrc hrb hi hvc hvb hgi hgc hgb hNo hYes hrn hER hEM hvo ⊢
  replace hvo := hid_mk hvo
  have hX := hid_mk (((Blk.new w 30 #[.int .i64 id, .int .i64 t, .int .i64 v, .int .i64 base, .int .i64 bt, .slice RA n Rc, .string s, .slice VA m Vc, .int .i64 role, .int .i64 lead, .int .i64 timer, .int .i64 commit, .slice GA gn Gc, .slice PA pn Pc]).alloc (.cells #[.int .i64 kind, .int .i64 fr, .int .i64 mto, .int .i64 mt, .bool ok, .int .i64 index, .int .i64 lterm, .slice QA qn Qc, .int .i64 mcommit, .string ms, .slice UA un Uc] 33)).alloc (.cells #[.int .i64 0, .int .i64 0, .int .i64 0, .int .i64 0, .int .i64 0, .slice none 0 0, .string ⟨#[]⟩, .slice none 0 0, .int .i64 0, .int .i64 0, .int .i64 0, .int .i64 0, .slice none 0 0, .slice none 0 0] 30))
  have hM : Hid (Blk (((w.alloc (.cells #[.int .i64 id, .int .i64 t, .int .i64 v, .int .i64 base, .int .i64 bt, .slice RA n Rc, .string s, .slice VA m Vc, .int .i64 role, .int .i64 lead, .int .i64 timer, .int .i64 commit, .slice GA gn Gc, .slice PA pn Pc] 30)).alloc (.cells #[.int .i64 kind, .int .i64 fr, .int .i64 mto, .int .i64 mt, .bool ok, .int .i64 index, .int .i64 lterm, .slice QA qn Qc, .int .i64 mcommit, .string ms, .slice UA un Uc] 33)).alloc (.cells #[.int .i64 0, .int .i64 0, .int .i64 0, .int .i64 0, .int .i64 0, .slice none 0 0, .string ⟨#[]⟩, .slice none 0 0, .int .i64 0, .int .i64 0, .int .i64 0, .int .i64 0, .slice none 0 0, .slice none 0 0] 30)) (w.heap.size + 1) 33 #[.int .i64 kind, .int .i64 fr, .int .i64 mto, .int .i64 mt, .bool ok, .int .i64 index, .int .i64 lterm, .slice QA qn Qc, .int .i64 mcommit, .string ms, .slice UA un Uc]) := (Blk.new_ (by simp)).alloc _
  have hY : Hid (Blk (((w.alloc (.cells #[.int .i64 id, .int .i64 t, .int .i64 v, .int .i64 base, .int .i64 bt, .slice RA n Rc, .string s, .slice VA m Vc, .int .i64 role, .int .i64 lead, .int .i64 timer, .int .i64 commit, .slice GA gn Gc, .slice PA pn Pc] 30)).alloc (.cells #[.int .i64 kind, .int .i64 fr, .int .i64 mto, .int .i64 mt, .bool ok, .int .i64 index, .int .i64 lterm, .slice QA qn Qc, .int .i64 mcommit, .string ms, .slice UA un Uc] 33)).alloc (.cells #[.int .i64 0, .int .i64 0, .int .i64 0, .int .i64 0, .int .i64 0, .slice none 0 0, .string ⟨#[]⟩, .slice none 0 0, .int .i64 0, .int .i64 0, .int .i64 0, .int .i64 0, .slice none 0 0, .slice none 0 0] 30)) (w.heap.size + 1 + 1) 30 #[.int .i64 0, .int .i64 0, .int .i64 0, .int .i64 0, .int .i64 0, .slice none 0 0, .string ⟨#[]⟩, .slice none 0 0, .int .i64 0, .int .i64 0, .int .i64 0, .int .i64 0, .slice none 0 0, .slice none 0 0]) := Blk.new_ (by simp)
  refine calls_of_wpQ Tryz.func15 rfl ?_
  intro Q hQ
  simp only [Tryz.ntmps15, List.size_toArray, List.length_cons, List.length_nil, Nat.reduceAdd, Nat.reduceSub, Array.replicate_succ, Array.replicate_zero, List.push_toArray, List.append_toArray, List.nil_append, List.cons_append]
  go_wp2_with fail
  refine (hER _ (B := B) (hN0.to (by go_grown)) (ht.to (by go_grown))).mono ?_
  rw [hzr.out]
  rintro e w1 ⟨rfl, hb1⟩
  have q1 := (after (w := w) hb1 (by go_grown)).1
  replace hX := hid_mk (hX.out.keep (after hb1 (by go_grown)).1)
  replace hY := hid_mk (hY.out.keep (after hb1 (by go_grown)).1)
  replace hM := hid_mk (hM.out.keep (after hb1 (by go_grown)).1)
  clear hb1
  obtain ⟨xl, x0, x1, x2, x3, x4, x5, x6, x7, x8, x9, x10, x11, x12, x13, xf0, xf1, xf2, xf3, xf4, xf5, xf6, xf7, xf8, xf9, xf10, xf11, xf12, xf13⟩ := blk14f hX.out
  obtain ⟨yl, y0, y1, y2, y3, y4, y5, y6, y7, y8, y9, y10, y11, y12, y13, yf0, yf1, yf2, yf3, yf4, yf5, yf6, yf7, yf8, yf9, yf10, yf11, yf12, yf13⟩ := blk14f hY.out
  obtain ⟨ml, m0, m1, m2, m3, m4, m5, m6, m7, m8, m9, m10⟩ := blk11s hM.out
  cases zr
  case false =>
    have hno := hid_mk (hNo.out (rfl))
    go_wp2
    clear xl x0 x1 x2 x3 x4 x5 x6 x7 x8 x9 x10 x11 x12 x13 xf0 xf1 xf2 xf3 xf4 xf5 xf6 xf7 xf8 xf9 xf10 xf11 xf12 xf13 yl y0 y1 y2 y3 y4 y5 y6 y7 y8 y9 y10 y11 y12 y13 yf0 yf1 yf2 yf3 yf4 yf5 yf6 yf7 yf8 yf9 yf10 yf11 yf12 yf13 ml m0 m1 m2 m3 m4 m5 m6 m7 m8 m9 m10
    have kfin := set14_blk hY.out (.int .i64 id) (.int .i64 t) (.int .i64 v) (.int .i64 base) (.int .i64 bt) (.slice RA n Rc) (.string s) (.slice VA m Vc) (.int .i64 role) (.int .i64 lead) (.int .i64 timer) (.int .i64 commit) (.slice GA gn Gc) (.slice PA pn Pc)
    unfold set14 at kfin
    obtain ⟨_, r0, r1, r2, r3, r4, r5, r6, r7, r8, r9, r10, r11, r12, r13⟩ := blk14c kfin
    refine ends_ret hQ (v := .tuple #[.agg #[.int .i64 id, .int .i64 t, .int .i64 v, .int .i64 base, .int .i64 bt, .slice RA n Rc, .string s, .slice VA m Vc, .int .i64 role, .int .i64 lead, .int .i64 timer, .int .i64 commit, .slice GA gn Gc, .slice PA pn Pc], .bool false]) (by simp [results, Tryz.results15, go_sem, r0, r1, r2, r3, r4, r5, r6, r7, r8, r9, r10, r11, r12, r13]) rfl ?_
    exact ⟨⟨⟨⟨RA, n, Rc⟩, ⟨VA, m, Vc⟩, ⟨GA, gn, Gc⟩, ⟨PA, pn, Pc⟩⟩, by rw [hno.out.1, hno.out.2]; rfl, by rw [hno.out.1]; exact hN0.to (set14_below (.int .i64 id) (.int .i64 t) (.int .i64 v) (.int .i64 base) (.int .i64 bt) (.slice RA n Rc) (.string s) (.slice VA m Vc) (.int .i64 role) (.int .i64 lead) (.int .i64 timer) (.int .i64 commit) (.slice GA gn Gc) (.slice PA pn Pc) q1 (by omega : w.heap.size ≤ w.heap.size + 1 + 1))⟩, set14_below (.int .i64 id) (.int .i64 t) (.int .i64 v) (.int .i64 base) (.int .i64 bt) (.slice RA n Rc) (.string s) (.slice VA m Vc) (.int .i64 role) (.int .i64 lead) (.int .i64 timer) (.int .i64 commit) (.slice GA gn Gc) (.slice PA pn Pc) q1 (by omega : w.heap.size ≤ w.heap.size + 1 + 1)⟩
  obtain ⟨hj, hl0, hg0⟩ := hrn.out (by first | rfl | trivial)
  go_wp2_with fail
  clear xl x0 x1 x2 x3 x4 x5 x6 x7 x8 x9 x10 x11 x12 x13 xf0 xf1 xf2 xf3 xf4 xf5 xf6 xf7 xf8 xf9 xf10 xf11 xf12 xf13 yl y0 y1 y2 y3 y4 y5 y6 y7 y8 y9 y10 y11 y12 y13 yf0 yf1 yf2 yf3 yf4 yf5 yf6 yf7 yf8 yf9 yf10 yf11 yf12 yf13 ml m0 m1 m2 m3 m4 m5 m6 m7 m8 m9 m10
  refine (hEM _ (B := B) (hM0.to (by go_grown))).mono ?_
  rw [hzm.out]
  rintro e w2 ⟨rfl, hb1⟩
  have q2 := (after (w := w) hb1 (by go_grown)).1
  replace hX := hid_mk (hX.out.keep (after hb1 (by go_grown)).1)
  replace hY := hid_mk (hY.out.keep (after hb1 (by go_grown)).1)
  replace hM := hid_mk (hM.out.keep (after hb1 (by go_grown)).1)
  clear hb1
  obtain ⟨xl, x0, x1, x2, x3, x4, x5, x6, x7, x8, x9, x10, x11, x12, x13, xf0, xf1, xf2, xf3, xf4, xf5, xf6, xf7, xf8, xf9, xf10, xf11, xf12, xf13⟩ := blk14f hX.out
  obtain ⟨yl, y0, y1, y2, y3, y4, y5, y6, y7, y8, y9, y10, y11, y12, y13, yf0, yf1, yf2, yf3, yf4, yf5, yf6, yf7, yf8, yf9, yf10, yf11, yf12, yf13⟩ := blk14f hY.out
  obtain ⟨ml, m0, m1, m2, m3, m4, m5, m6, m7, m8, m9, m10⟩ := blk11s hM.out
  cases zm
  case false =>
    have hno := hid_mk (hNo.out (rfl))
    go_wp2
    clear xl x0 x1 x2 x3 x4 x5 x6 x7 x8 x9 x10 x11 x12 x13 xf0 xf1 xf2 xf3 xf4 xf5 xf6 xf7 xf8 xf9 xf10 xf11 xf12 xf13 yl y0 y1 y2 y3 y4 y5 y6 y7 y8 y9 y10 y11 y12 y13 yf0 yf1 yf2 yf3 yf4 yf5 yf6 yf7 yf8 yf9 yf10 yf11 yf12 yf13 ml m0 m1 m2 m3 m4 m5 m6 m7 m8 m9 m10
    have kfin := set14_blk hY.out (.int .i64 id) (.int .i64 t) (.int .i64 v) (.int .i64 base) (.int .i64 bt) (.slice RA n Rc) (.string s) (.slice VA m Vc) (.int .i64 role) (.int .i64 lead) (.int .i64 timer) (.int .i64 commit) (.slice GA gn Gc) (.slice PA pn Pc)
    unfold set14 at kfin
    obtain ⟨_, r0, r1, r2, r3, r4, r5, r6, r7, r8, r9, r10, r11, r12, r13⟩ := blk14c kfin
    refine ends_ret hQ (v := .tuple #[.agg #[.int .i64 id, .int .i64 t, .int .i64 v, .int .i64 base, .int .i64 bt, .slice RA n Rc, .string s, .slice VA m Vc, .int .i64 role, .int .i64 lead, .int .i64 timer, .int .i64 commit, .slice GA gn Gc, .slice PA pn Pc], .bool false]) (by simp [results, Tryz.results15, go_sem, r0, r1, r2, r3, r4, r5, r6, r7, r8, r9, r10, r11, r12, r13]) rfl ?_
    exact ⟨⟨⟨⟨RA, n, Rc⟩, ⟨VA, m, Vc⟩, ⟨GA, gn, Gc⟩, ⟨PA, pn, Pc⟩⟩, by rw [hno.out.1, hno.out.2]; rfl, by rw [hno.out.1]; exact hN0.to (set14_below (.int .i64 id) (.int .i64 t) (.int .i64 v) (.int .i64 base) (.int .i64 bt) (.slice RA n Rc) (.string s) (.slice VA m Vc) (.int .i64 role) (.int .i64 lead) (.int .i64 timer) (.int .i64 commit) (.slice GA gn Gc) (.slice PA pn Pc) q2 (by omega : w.heap.size ≤ w.heap.size + 1 + 1))⟩, set14_below (.int .i64 id) (.int .i64 t) (.int .i64 v) (.int .i64 base) (.int .i64 bt) (.slice RA n Rc) (.string s) (.slice VA m Vc) (.int .i64 role) (.int .i64 lead) (.int .i64 timer) (.int .i64 commit) (.slice GA gn Gc) (.slice PA pn Pc) q2 (by omega : w.heap.size ≤ w.heap.size + 1 + 1)⟩
  by_cases k1 : kind = 2
  case neg =>
    have k1' : (kind == 2) = false := by simpa using k1
    have k1n := hid_mk k1'
    replace k1 := hid_mk k1
    have hno := hid_mk (hNo.out (by rw [k1n.out]; rfl))
    go_wp2
    clear xl x0 x1 x2 x3 x4 x5 x6 x7 x8 x9 x10 x11 x12 x13 xf0 xf1 xf2 xf3 xf4 xf5 xf6 xf7 xf8 xf9 xf10 xf11 xf12 xf13 yl y0 y1 y2 y3 y4 y5 y6 y7 y8 y9 y10 y11 y12 y13 yf0 yf1 yf2 yf3 yf4 yf5 yf6 yf7 yf8 yf9 yf10 yf11 yf12 yf13 ml m0 m1 m2 m3 m4 m5 m6 m7 m8 m9 m10
    have kfin := set14_blk hY.out (.int .i64 id) (.int .i64 t) (.int .i64 v) (.int .i64 base) (.int .i64 bt) (.slice RA n Rc) (.string s) (.slice VA m Vc) (.int .i64 role) (.int .i64 lead) (.int .i64 timer) (.int .i64 commit) (.slice GA gn Gc) (.slice PA pn Pc)
    unfold set14 at kfin
    obtain ⟨_, r0, r1, r2, r3, r4, r5, r6, r7, r8, r9, r10, r11, r12, r13⟩ := blk14c kfin
    refine ends_ret hQ (v := .tuple #[.agg #[.int .i64 id, .int .i64 t, .int .i64 v, .int .i64 base, .int .i64 bt, .slice RA n Rc, .string s, .slice VA m Vc, .int .i64 role, .int .i64 lead, .int .i64 timer, .int .i64 commit, .slice GA gn Gc, .slice PA pn Pc], .bool false]) (by simp [results, Tryz.results15, go_sem, r0, r1, r2, r3, r4, r5, r6, r7, r8, r9, r10, r11, r12, r13]) rfl ?_
    exact ⟨⟨⟨⟨RA, n, Rc⟩, ⟨VA, m, Vc⟩, ⟨GA, gn, Gc⟩, ⟨PA, pn, Pc⟩⟩, by rw [hno.out.1, hno.out.2]; rfl, by rw [hno.out.1]; exact hN0.to (set14_below (.int .i64 id) (.int .i64 t) (.int .i64 v) (.int .i64 base) (.int .i64 bt) (.slice RA n Rc) (.string s) (.slice VA m Vc) (.int .i64 role) (.int .i64 lead) (.int .i64 timer) (.int .i64 commit) (.slice GA gn Gc) (.slice PA pn Pc) q2 (by omega : w.heap.size ≤ w.heap.size + 1 + 1))⟩, set14_below (.int .i64 id) (.int .i64 t) (.int .i64 v) (.int .i64 base) (.int .i64 bt) (.slice RA n Rc) (.string s) (.slice VA m Vc) (.int .i64 role) (.int .i64 lead) (.int .i64 timer) (.int .i64 commit) (.slice GA gn Gc) (.slice PA pn Pc) q2 (by omega : w.heap.size ≤ w.heap.size + 1 + 1)⟩
  have k1' : (kind == 2) = true := by simpa using k1
  replace k1 := hid_mk k1
  by_cases k2 : mto = id
  case neg =>
    have k2' : (mto == id) = false := by simpa using k2
    have k2n := hid_mk k2'
    replace k2 := hid_mk k2
    have hno := hid_mk (hNo.out (by rw [k2n.out, k1.out]; rfl))
    go_wp2
    clear xl x0 x1 x2 x3 x4 x5 x6 x7 x8 x9 x10 x11 x12 x13 xf0 xf1 xf2 xf3 xf4 xf5 xf6 xf7 xf8 xf9 xf10 xf11 xf12 xf13 yl y0 y1 y2 y3 y4 y5 y6 y7 y8 y9 y10 y11 y12 y13 yf0 yf1 yf2 yf3 yf4 yf5 yf6 yf7 yf8 yf9 yf10 yf11 yf12 yf13 ml m0 m1 m2 m3 m4 m5 m6 m7 m8 m9 m10
    have kfin := set14_blk hY.out (.int .i64 id) (.int .i64 t) (.int .i64 v) (.int .i64 base) (.int .i64 bt) (.slice RA n Rc) (.string s) (.slice VA m Vc) (.int .i64 role) (.int .i64 lead) (.int .i64 timer) (.int .i64 commit) (.slice GA gn Gc) (.slice PA pn Pc)
    unfold set14 at kfin
    obtain ⟨_, r0, r1, r2, r3, r4, r5, r6, r7, r8, r9, r10, r11, r12, r13⟩ := blk14c kfin
    refine ends_ret hQ (v := .tuple #[.agg #[.int .i64 id, .int .i64 t, .int .i64 v, .int .i64 base, .int .i64 bt, .slice RA n Rc, .string s, .slice VA m Vc, .int .i64 role, .int .i64 lead, .int .i64 timer, .int .i64 commit, .slice GA gn Gc, .slice PA pn Pc], .bool false]) (by simp [results, Tryz.results15, go_sem, r0, r1, r2, r3, r4, r5, r6, r7, r8, r9, r10, r11, r12, r13]) rfl ?_
    exact ⟨⟨⟨⟨RA, n, Rc⟩, ⟨VA, m, Vc⟩, ⟨GA, gn, Gc⟩, ⟨PA, pn, Pc⟩⟩, by rw [hno.out.1, hno.out.2]; rfl, by rw [hno.out.1]; exact hN0.to (set14_below (.int .i64 id) (.int .i64 t) (.int .i64 v) (.int .i64 base) (.int .i64 bt) (.slice RA n Rc) (.string s) (.slice VA m Vc) (.int .i64 role) (.int .i64 lead) (.int .i64 timer) (.int .i64 commit) (.slice GA gn Gc) (.slice PA pn Pc) q2 (by omega : w.heap.size ≤ w.heap.size + 1 + 1))⟩, set14_below (.int .i64 id) (.int .i64 t) (.int .i64 v) (.int .i64 base) (.int .i64 bt) (.slice RA n Rc) (.string s) (.slice VA m Vc) (.int .i64 role) (.int .i64 lead) (.int .i64 timer) (.int .i64 commit) (.slice GA gn Gc) (.slice PA pn Pc) q2 (by omega : w.heap.size ≤ w.heap.size + 1 + 1)⟩
  have k2' : (mto == id) = true := by simpa using k2
  replace k2 := hid_mk k2
  by_cases k3 : mt = t
  case neg =>
    have k3' : (mt == t) = false := by simpa using k3
    have k3n := hid_mk k3'
    replace k3 := hid_mk k3
    have hno := hid_mk (hNo.out (by rw [k3n.out, k2.out, k1.out]; simp))
    go_wp2
    clear xl x0 x1 x2 x3 x4 x5 x6 x7 x8 x9 x10 x11 x12 x13 xf0 xf1 xf2 xf3 xf4 xf5 xf6 xf7 xf8 xf9 xf10 xf11 xf12 xf13 yl y0 y1 y2 y3 y4 y5 y6 y7 y8 y9 y10 y11 y12 y13 yf0 yf1 yf2 yf3 yf4 yf5 yf6 yf7 yf8 yf9 yf10 yf11 yf12 yf13 ml m0 m1 m2 m3 m4 m5 m6 m7 m8 m9 m10
    have kfin := set14_blk hY.out (.int .i64 id) (.int .i64 t) (.int .i64 v) (.int .i64 base) (.int .i64 bt) (.slice RA n Rc) (.string s) (.slice VA m Vc) (.int .i64 role) (.int .i64 lead) (.int .i64 timer) (.int .i64 commit) (.slice GA gn Gc) (.slice PA pn Pc)
    unfold set14 at kfin
    obtain ⟨_, r0, r1, r2, r3, r4, r5, r6, r7, r8, r9, r10, r11, r12, r13⟩ := blk14c kfin
    refine ends_ret hQ (v := .tuple #[.agg #[.int .i64 id, .int .i64 t, .int .i64 v, .int .i64 base, .int .i64 bt, .slice RA n Rc, .string s, .slice VA m Vc, .int .i64 role, .int .i64 lead, .int .i64 timer, .int .i64 commit, .slice GA gn Gc, .slice PA pn Pc], .bool false]) (by simp [results, Tryz.results15, go_sem, r0, r1, r2, r3, r4, r5, r6, r7, r8, r9, r10, r11, r12, r13]) rfl ?_
    exact ⟨⟨⟨⟨RA, n, Rc⟩, ⟨VA, m, Vc⟩, ⟨GA, gn, Gc⟩, ⟨PA, pn, Pc⟩⟩, by rw [hno.out.1, hno.out.2]; rfl, by rw [hno.out.1]; exact hN0.to (set14_below (.int .i64 id) (.int .i64 t) (.int .i64 v) (.int .i64 base) (.int .i64 bt) (.slice RA n Rc) (.string s) (.slice VA m Vc) (.int .i64 role) (.int .i64 lead) (.int .i64 timer) (.int .i64 commit) (.slice GA gn Gc) (.slice PA pn Pc) q2 (by omega : w.heap.size ≤ w.heap.size + 1 + 1))⟩, set14_below (.int .i64 id) (.int .i64 t) (.int .i64 v) (.int .i64 base) (.int .i64 bt) (.slice RA n Rc) (.string s) (.slice VA m Vc) (.int .i64 role) (.int .i64 lead) (.int .i64 timer) (.int .i64 commit) (.slice GA gn Gc) (.slice PA pn Pc) q2 (by omega : w.heap.size ≤ w.heap.size + 1 + 1)⟩
  have k3' : (mt == t) = true := by simpa using k3
  replace k3 := hid_mk k3
  cases ok
  case false =>
    have hno := hid_mk (hNo.out (by rw [k3.out, k2.out, k1.out]; simp))
    go_wp2
    clear xl x0 x1 x2 x3 x4 x5 x6 x7 x8 x9 x10 x11 x12 x13 xf0 xf1 xf2 xf3 xf4 xf5 xf6 xf7 xf8 xf9 xf10 xf11 xf12 xf13 yl y0 y1 y2 y3 y4 y5 y6 y7 y8 y9 y10 y11 y12 y13 yf0 yf1 yf2 yf3 yf4 yf5 yf6 yf7 yf8 yf9 yf10 yf11 yf12 yf13 ml m0 m1 m2 m3 m4 m5 m6 m7 m8 m9 m10
    have kfin := set14_blk hY.out (.int .i64 id) (.int .i64 t) (.int .i64 v) (.int .i64 base) (.int .i64 bt) (.slice RA n Rc) (.string s) (.slice VA m Vc) (.int .i64 role) (.int .i64 lead) (.int .i64 timer) (.int .i64 commit) (.slice GA gn Gc) (.slice PA pn Pc)
    unfold set14 at kfin
    obtain ⟨_, r0, r1, r2, r3, r4, r5, r6, r7, r8, r9, r10, r11, r12, r13⟩ := blk14c kfin
    refine ends_ret hQ (v := .tuple #[.agg #[.int .i64 id, .int .i64 t, .int .i64 v, .int .i64 base, .int .i64 bt, .slice RA n Rc, .string s, .slice VA m Vc, .int .i64 role, .int .i64 lead, .int .i64 timer, .int .i64 commit, .slice GA gn Gc, .slice PA pn Pc], .bool false]) (by simp [results, Tryz.results15, go_sem, r0, r1, r2, r3, r4, r5, r6, r7, r8, r9, r10, r11, r12, r13]) rfl ?_
    exact ⟨⟨⟨⟨RA, n, Rc⟩, ⟨VA, m, Vc⟩, ⟨GA, gn, Gc⟩, ⟨PA, pn, Pc⟩⟩, by rw [hno.out.1, hno.out.2]; rfl, by rw [hno.out.1]; exact hN0.to (set14_below (.int .i64 id) (.int .i64 t) (.int .i64 v) (.int .i64 base) (.int .i64 bt) (.slice RA n Rc) (.string s) (.slice VA m Vc) (.int .i64 role) (.int .i64 lead) (.int .i64 timer) (.int .i64 commit) (.slice GA gn Gc) (.slice PA pn Pc) q2 (by omega : w.heap.size ≤ w.heap.size + 1 + 1))⟩, set14_below (.int .i64 id) (.int .i64 t) (.int .i64 v) (.int .i64 base) (.int .i64 bt) (.slice RA n Rc) (.string s) (.slice VA m Vc) (.int .i64 role) (.int .i64 lead) (.int .i64 timer) (.int .i64 commit) (.slice GA gn Gc) (.slice PA pn Pc) q2 (by omega : w.heap.size ≤ w.heap.size + 1 + 1)⟩
  by_cases k5 : role = 1
  case neg =>
    have k5' : (role == 1) = false := by simpa using k5
    have k5n := hid_mk k5'
    replace k5 := hid_mk k5
    have hno := hid_mk (hNo.out (by rw [k5n.out, k3.out, k2.out, k1.out]; simp))
    go_wp2
    clear xl x0 x1 x2 x3 x4 x5 x6 x7 x8 x9 x10 x11 x12 x13 xf0 xf1 xf2 xf3 xf4 xf5 xf6 xf7 xf8 xf9 xf10 xf11 xf12 xf13 yl y0 y1 y2 y3 y4 y5 y6 y7 y8 y9 y10 y11 y12 y13 yf0 yf1 yf2 yf3 yf4 yf5 yf6 yf7 yf8 yf9 yf10 yf11 yf12 yf13 ml m0 m1 m2 m3 m4 m5 m6 m7 m8 m9 m10
    have kfin := set14_blk hY.out (.int .i64 id) (.int .i64 t) (.int .i64 v) (.int .i64 base) (.int .i64 bt) (.slice RA n Rc) (.string s) (.slice VA m Vc) (.int .i64 role) (.int .i64 lead) (.int .i64 timer) (.int .i64 commit) (.slice GA gn Gc) (.slice PA pn Pc)
    unfold set14 at kfin
    obtain ⟨_, r0, r1, r2, r3, r4, r5, r6, r7, r8, r9, r10, r11, r12, r13⟩ := blk14c kfin
    refine ends_ret hQ (v := .tuple #[.agg #[.int .i64 id, .int .i64 t, .int .i64 v, .int .i64 base, .int .i64 bt, .slice RA n Rc, .string s, .slice VA m Vc, .int .i64 role, .int .i64 lead, .int .i64 timer, .int .i64 commit, .slice GA gn Gc, .slice PA pn Pc], .bool false]) (by simp [results, Tryz.results15, go_sem, r0, r1, r2, r3, r4, r5, r6, r7, r8, r9, r10, r11, r12, r13]) rfl ?_
    exact ⟨⟨⟨⟨RA, n, Rc⟩, ⟨VA, m, Vc⟩, ⟨GA, gn, Gc⟩, ⟨PA, pn, Pc⟩⟩, by rw [hno.out.1, hno.out.2]; rfl, by rw [hno.out.1]; exact hN0.to (set14_below (.int .i64 id) (.int .i64 t) (.int .i64 v) (.int .i64 base) (.int .i64 bt) (.slice RA n Rc) (.string s) (.slice VA m Vc) (.int .i64 role) (.int .i64 lead) (.int .i64 timer) (.int .i64 commit) (.slice GA gn Gc) (.slice PA pn Pc) q2 (by omega : w.heap.size ≤ w.heap.size + 1 + 1))⟩, set14_below (.int .i64 id) (.int .i64 t) (.int .i64 v) (.int .i64 base) (.int .i64 bt) (.slice RA n Rc) (.string s) (.slice VA m Vc) (.int .i64 role) (.int .i64 lead) (.int .i64 timer) (.int .i64 commit) (.slice GA gn Gc) (.slice PA pn Pc) q2 (by omega : w.heap.size ≤ w.heap.size + 1 + 1)⟩
  have k5' : (role == 1) = true := by simpa using k5
  have hy := hid_mk (hYes.out (by rw [k5, k3.out, k2.out, k1.out]; simp))
  replace k5 := hid_mk k5
  clear hNo hYes hrn
  have hasc := asc_none hg0
  have hgl := hgi.len
  have hg9 : gn ≤ 9 := by rw [← hgl]; exact hasc.2
  have hposl : posL fr got ≤ gn := by rw [← hgl]; exact posL_le fr got
  obtain ⟨po, hpo⟩ : ∃ z, posL fr got = z := ⟨_, rfl⟩
  rw [hpo] at hposl
  have hn200 : n ≤ 200 := by rw [← hr.len]; exact (right_bounds hj).2.2.2.2.1
  have hm7 : m ≤ 7 := by rw [← hi.len]; exact (right_len hl0).2
  replace hj := hid_mk hj
  replace hl0 := hid_mk hl0
  replace hg0 := hid_mk hg0
  replace hgl := hid_mk hgl
  replace hgi := hid_mk hgi
  go_wp2_with fail
  clear xl x0 x1 x2 x3 x4 x5 x6 x7 x8 x9 x10 x11 x12 x13 xf0 xf1 xf2 xf3 xf4 xf5 xf6 xf7 xf8 xf9 xf10 xf11 xf12 xf13 yl y0 y1 y2 y3 y4 y5 y6 y7 y8 y9 y10 y11 y12 y13 yf0 yf1 yf2 yf3 yf4 yf5 yf6 yf7 yf8 yf9 yf10 yf11 yf12 yf13 ml m0 m1 m2 m3 m4 m5 m6 m7 m8 m9 m10
  refine (Search_any GA gn Gc got fr _ (B := B) (by omega) (hgi.out.to (by go_grown)) hasc.1).mono ?_
  obtain ⟨zc, hzc⟩ : ∃ z, got.contains fr = z := ⟨_, rfl⟩
  rw [hzc, hpo]
  rintro e w3 ⟨rfl, hb1⟩
  have q3 := (after (w := w) hb1 (by go_grown)).1
  replace hX := hid_mk (hX.out.keep (after hb1 (by go_grown)).1)
  replace hY := hid_mk (hY.out.keep (after hb1 (by go_grown)).1)
  replace hM := hid_mk (hM.out.keep (after hb1 (by go_grown)).1)
  clear hb1
  have z3 := q3.size
  replace hasc := hid_mk hasc
  replace hpo := hid_mk hpo
  replace hzc := hid_mk hzc
  have zy := hY.out.lt
  obtain ⟨xl, x0, x1, x2, x3, x4, x5, x6, x7, x8, x9, x10, x11, x12, x13, xf0, xf1, xf2, xf3, xf4, xf5, xf6, xf7, xf8, xf9, xf10, xf11, xf12, xf13⟩ := blk14f hX.out
  obtain ⟨yl, y0, y1, y2, y3, y4, y5, y6, y7, y8, y9, y10, y11, y12, y13, yf0, yf1, yf2, yf3, yf4, yf5, yf6, yf7, yf8, yf9, yf10, yf11, yf12, yf13⟩ := blk14f hY.out
  obtain ⟨ml, m0, m1, m2, m3, m4, m5, m6, m7, m8, m9, m10⟩ := blk11s hM.out
  go_upto_if 58 with fail
  go_cut [] from 59 (fun wx => ∃ (A6 : Option Addr) (n6 c6 : Nat), Hid (Blk wx w.heap.size 30 #[.int .i64 id, .int .i64 t, .int .i64 v, .int .i64 base, .int .i64 bt, .slice RA n Rc, .string s, .slice VA m Vc, .int .i64 role, .int .i64 lead, .int .i64 timer, .int .i64 commit, .slice A6 n6 c6, .slice PA pn Pc]) ∧ Hid (Ints wx B A6 n6 (gotM got fr)) ∧ n6 ≤ c6 ∧ n6 ≤ 10 ∧ Below w.heap.size w wx ∧ Hid (Blk wx (w.heap.size + 1 + 1) 30 #[.int .i64 0, .int .i64 0, .int .i64 0, .int .i64 0, .int .i64 0, .slice none 0 0, .string ⟨#[]⟩, .slice none 0 0, .int .i64 0, .int .i64 0, .int .i64 0, .int .i64 0, .slice none 0 0, .slice none 0 0]))
  case first =>
    cases zc
    case true =>
      go_wp2
      go_meet
      exact ⟨GA, gn, Gc, hX, by unfold gotM; rw [hzc.out]; exact hgi.out.to q3, hgc, by omega, q3, hY⟩
    case false =>
      go_wp2
      refine wp_region_T' (fun w' => w'.cell? ⟨w.heap.size, 0, none⟩ = some (.int .i64 id) ∧ w'.cell? ⟨w.heap.size, 1, none⟩ = some (.int .i64 t) ∧ w'.cell? ⟨w.heap.size, 2, none⟩ = some (.int .i64 v) ∧ w'.cell? ⟨w.heap.size, 3, none⟩ = some (.int .i64 base) ∧ w'.cell? ⟨w.heap.size, 4, none⟩ = some (.int .i64 bt) ∧ w'.cell? ⟨w.heap.size, 5, none⟩ = some (.slice RA n Rc) ∧ w'.cell? ⟨w.heap.size, 6, none⟩ = some (.string s) ∧ w'.cell? ⟨w.heap.size, 7, none⟩ = some (.slice VA m Vc) ∧ w'.cell? ⟨w.heap.size, 8, none⟩ = some (.int .i64 role) ∧ w'.cell? ⟨w.heap.size, 9, none⟩ = some (.int .i64 lead) ∧ w'.cell? ⟨w.heap.size, 10, none⟩ = some (.int .i64 timer) ∧ w'.cell? ⟨w.heap.size, 11, none⟩ = some (.int .i64 commit) ∧ w'.cell? ⟨w.heap.size, 12, none⟩ = some (.slice GA gn Gc) ∧ w'.cell? ⟨w.heap.size, 13, none⟩ = some (.slice PA pn Pc) ∧ w'.cell? ⟨w.heap.size + 1, 1, none⟩ = some (.int .i64 fr)) (fun j => decide (j < 9)) 10 (by kernel_rfl) (by kernel_rfl) (by exact (countS (cs' := #[.int .i64 kind, .int .i64 fr, .int .i64 mto, .int .i64 mt, .bool true, .int .i64 index, .int .i64 lterm, .slice QA qn Qc, .int .i64 mcommit, .string ms, .slice UA un Uc]) rfl hX.out hM.out)) (fun hS0 => ?_)
      refine wpAnyT_take (i := 0) rfl (by kernel_rfl) (by kernel_rfl) (by kernel_rfl) rfl (by kernel_rfl) (fun _ _ _ h => h) (by kernel_rfl) (fun w' hS => (by obtain ⟨s0, s1, s2, s3, s4, s5, s6, s7, s8, s9, s10, s11, s12, s13, s14⟩ := hS; go_simp; try with_reducible rfl)) hS0 ?_
      simp only [Act.put]
      refine wpAnyT_take (i := 1) rfl (by kernel_rfl) (by kernel_rfl) (by kernel_rfl) rfl (by kernel_rfl) (fun _ _ _ h => h) (by kernel_rfl) (fun w' hS => (by obtain ⟨s0, s1, s2, s3, s4, s5, s6, s7, s8, s9, s10, s11, s12, s13, s14⟩ := hS; go_simp; try with_reducible rfl)) hS0 ?_
      simp only [Act.put]
      refine wpAnyT_take (i := 3) rfl (by kernel_rfl) (by kernel_rfl) (by kernel_rfl) rfl (by kernel_rfl) (fun _ _ _ h => h) (by kernel_rfl) (fun w' hS => (by obtain ⟨s0, s1, s2, s3, s4, s5, s6, s7, s8, s9, s10, s11, s12, s13, s14⟩ := hS; go_simp; try with_reducible rfl)) hS0 ?_
      simp only [Act.put]
      refine wpAnyT_take (i := 4) rfl (by kernel_rfl) (by kernel_rfl) (by kernel_rfl) rfl (by kernel_rfl) (fun _ _ _ h => h) (by kernel_rfl) (fun w' hS => (by obtain ⟨s0, s1, s2, s3, s4, s5, s6, s7, s8, s9, s10, s11, s12, s13, s14⟩ := hS; go_simp; try with_reducible rfl)) hS0 ?_
      simp only [Act.put]
      refine wpAnyT_take (i := 5) rfl (by kernel_rfl) (by kernel_rfl) (by kernel_rfl) rfl (by kernel_rfl) (fun _ _ _ h => h) (by kernel_rfl) (fun w' hS => (by obtain ⟨s0, s1, s2, s3, s4, s5, s6, s7, s8, s9, s10, s11, s12, s13, s14⟩ := hS; go_simp; try with_reducible rfl)) hS0 ?_
      simp only [Act.put]
      refine wpAnyT_two (i := 2) (j := 6) (by kernel_rfl) rfl rfl (fun K hK => ?_) (fun K hK => ?_)
      · skip
        -- refine wpAnyT_one (i := 2) (by kernel_rfl) rfl (fun K hK => ?_)
        go_simp
        have hX4 := hX
        have hY4 := hY
        have hM4 := hM
        refine (Clone_own GA gn Gc got _ (B := B) (by omega) (hgi.out.to (by go_grown))).mono ?_
        rintro e w5 ⟨A5, c5, rfl, hown5, hb5⟩
        have q5 := (after (w := w) hb5 (by go_grown)).1
        have z5 := q5.size
        replace hX := hid_mk (hX.out.keep (after hb5 (by go_grown)).1)
        replace hY := hid_mk (hY.out.keep (after hb5 (by go_grown)).1)
        replace hM := hid_mk (hM.out.keep (after hb5 (by go_grown)).1)
        refine hK.out _ _ (fun _ => (countS (cs' := #[.int .i64 kind, .int .i64 fr, .int .i64 mto, .int .i64 mt, .bool true, .int .i64 index, .int .i64 lterm, .slice QA qn Qc, .int .i64 mcommit, .string ms, .slice UA un Uc]) rfl hX.out hM.out)) ?_
        clear hK K
        try simp only [Act.put]
        refine wpAnyT_one (i := 6) (by kernel_rfl) rfl (fun K hK => ?_)
        go_simp
        replace hX := hid_mk (hX.out.alloc (.cells #[.int .i64 fr] 3))
        replace hY := hid_mk (hY.out.alloc (.cells #[.int .i64 fr] 3))
        replace hM := hid_mk (hM.out.alloc (.cells #[.int .i64 fr] 3))
        have hG := hid_mk (Blk.new w5 3 #[.int .i64 fr])
        refine hK.out _ _ (fun _ => (countS (cs' := #[.int .i64 kind, .int .i64 fr, .int .i64 mto, .int .i64 mt, .bool true, .int .i64 index, .int .i64 lterm, .slice QA qn Qc, .int .i64 mcommit, .string ms, .slice UA un Uc]) rfl hX.out hM.out)) ?_
        clear hK K
        try simp only [Act.put]
        refine wpAnyT_one (i := 7) (by kernel_rfl) rfl (fun K hK => ?_)
        go_simp
        refine (Insert_any (hb5.alloc hb5.size _) (hown5.alloc _) hG.out (fun e => absurd (World.ownsRow.lt hown5 _ e).2 (Nat.lt_irrefl _)) hposl (by omega) 1).mono ?_
        rintro e w6 ⟨A6, c6, rfl, hI6, hc6, hb6⟩
        have q6 := (after (w := w) hb6 (by go_grown)).1
        replace hX := hid_mk (hX4.out.keep (after hb6 (by go_grown)).1)
        replace hY := hid_mk (hY4.out.keep (after hb6 (by go_grown)).1)
        replace hM := hid_mk (hM4.out.keep (after hb6 (by go_grown)).1)
        clear hb6
        refine hK.out _ _ (fun _ => (countS (cs' := #[.int .i64 kind, .int .i64 fr, .int .i64 mto, .int .i64 mt, .bool true, .int .i64 index, .int .i64 lterm, .slice QA qn Qc, .int .i64 mcommit, .string ms, .slice UA un Uc]) rfl hX.out hM.out)) ?_
        clear hK K
        try simp only [Act.put]
        refine wpAnyT_take (i := 8) rfl (by kernel_rfl) (by kernel_rfl) (by kernel_rfl) rfl (by kernel_rfl) (fun _ _ _ h => h) (by kernel_rfl) (fun w' hS => (by obtain ⟨s0, s1, s2, s3, s4, s5, s6, s7, s8, s9, s10, s11, s12, s13, s14⟩ := hS; go_simp; try with_reducible rfl)) (countS (cs' := #[.int .i64 kind, .int .i64 fr, .int .i64 mto, .int .i64 mt, .bool true, .int .i64 index, .int .i64 lterm, .slice QA qn Qc, .int .i64 mcommit, .string ms, .slice UA un Uc]) rfl hX.out hM.out) ?_
        simp only [Act.put]
        have x12 := hX.out.cell 12
        have xf12 := hX.out.frozen 12
        have xl2 := hX.out.lt
        change _ = some (Value.slice GA gn Gc) at x12
        refine wpAnyT_one (i := 9) (by kernel_rfl) rfl (fun K hK => ?_)
        go_simp
        refine hK.out _ _ (fun h => absurd h (by decide)) ?_
        clear hK K
        try simp only [Act.put]
        refine wpAnyT_done (by kernel_rfl) ?_ _
        have hX7 : Blk (w6.setCell ⟨w.heap.size, 12, none⟩ (.slice A6 (gn + 1) c6)) w.heap.size 30 #[.int .i64 id, .int .i64 t, .int .i64 v, .int .i64 base, .int .i64 bt, .slice RA n Rc, .string s, .slice VA m Vc, .int .i64 role, .int .i64 lead, .int .i64 timer, .int .i64 commit, .slice A6 (gn + 1) c6, .slice PA pn Pc] := hX.out.set_ 12 _
        have hY7 := hid_mk (hY.out.far (p := ⟨w.heap.size, 12, none⟩) (by dsimp only; omega) (.slice A6 (gn + 1) c6))
        have hI7 : Ints _ 0 A6 (gn + 1) _ := Reads.far hI6 hX.out (Nat.zero_le _) (by decide) 12 (.slice A6 (gn + 1) c6)
        have q7 := q6.setCell (p := ⟨w.heap.size, 12, none⟩) (Nat.le_refl _) (.slice A6 (gn + 1) c6)
        go_wp2_with fail
        go_meet
        exact ⟨A6, gn + 1, c6, hid_mk hX7, by unfold gotM; rw [hzc.out, hpo.out]; exact hI7.more (Nat.zero_le _), hc6, by omega, q7, hY7⟩
      · skip
        -- refine wpAnyT_one (i := 6) (by kernel_rfl) rfl (fun K hK => ?_)
        go_simp
        replace hX := hid_mk (hX.out.alloc (.cells #[.int .i64 fr] 3))
        replace hY := hid_mk (hY.out.alloc (.cells #[.int .i64 fr] 3))
        replace hM := hid_mk (hM.out.alloc (.cells #[.int .i64 fr] 3))
        have hG := hid_mk (Blk.new w3 3 #[.int .i64 fr])
        have hX4 := hX
        have hY4 := hY
        have hM4 := hM
        refine hK.out _ _ (fun _ => (countS (cs' := #[.int .i64 kind, .int .i64 fr, .int .i64 mto, .int .i64 mt, .bool true, .int .i64 index, .int .i64 lterm, .slice QA qn Qc, .int .i64 mcommit, .string ms, .slice UA un Uc]) rfl hX.out hM.out)) ?_
        clear hK K
        try simp only [Act.put]
        refine wpAnyT_one (i := 2) (by kernel_rfl) rfl (fun K hK => ?_)
        go_simp
        refine (Clone_own GA gn Gc got _ (B := B) (by omega) (hgi.out.to (by go_grown))).mono ?_
        rintro e w5 ⟨A5, c5, rfl, hown5, hb5⟩
        have q5 := (after (w := w) hb5 (by go_grown)).1
        have z5 := q5.size
        replace hX := hid_mk (hX.out.keep (after hb5 (by go_grown)).1)
        replace hY := hid_mk (hY.out.keep (after hb5 (by go_grown)).1)
        replace hM := hid_mk (hM.out.keep (after hb5 (by go_grown)).1)
        replace hG := hid_mk (hG.out.keep (after hb5 (by go_grown)).1)
        refine hK.out _ _ (fun _ => (countS (cs' := #[.int .i64 kind, .int .i64 fr, .int .i64 mto, .int .i64 mt, .bool true, .int .i64 index, .int .i64 lterm, .slice QA qn Qc, .int .i64 mcommit, .string ms, .slice UA un Uc]) rfl hX.out hM.out)) ?_
        clear hK K
        try simp only [Act.put]
        refine wpAnyT_one (i := 7) (by kernel_rfl) rfl (fun K hK => ?_)
        go_simp
        refine (Insert_any (hb5) (hown5) hG.out (fun e => absurd (World.ownsRow.lt hown5 _ e).1 (by simp)) hposl (by omega) 1).mono ?_
        rintro e w6 ⟨A6, c6, rfl, hI6, hc6, hb6⟩
        have q6 := (after (w := w) hb6 (by go_grown)).1
        replace hX := hid_mk (hX4.out.keep (after hb6 (by go_grown)).1)
        replace hY := hid_mk (hY4.out.keep (after hb6 (by go_grown)).1)
        replace hM := hid_mk (hM4.out.keep (after hb6 (by go_grown)).1)
        clear hb6
        refine hK.out _ _ (fun _ => (countS (cs' := #[.int .i64 kind, .int .i64 fr, .int .i64 mto, .int .i64 mt, .bool true, .int .i64 index, .int .i64 lterm, .slice QA qn Qc, .int .i64 mcommit, .string ms, .slice UA un Uc]) rfl hX.out hM.out)) ?_
        clear hK K
        try simp only [Act.put]
        refine wpAnyT_take (i := 8) rfl (by kernel_rfl) (by kernel_rfl) (by kernel_rfl) rfl (by kernel_rfl) (fun _ _ _ h => h) (by kernel_rfl) (fun w' hS => (by obtain ⟨s0, s1, s2, s3, s4, s5, s6, s7, s8, s9, s10, s11, s12, s13, s14⟩ := hS; go_simp; try with_reducible rfl)) (countS (cs' := #[.int .i64 kind, .int .i64 fr, .int .i64 mto, .int .i64 mt, .bool true, .int .i64 index, .int .i64 lterm, .slice QA qn Qc, .int .i64 mcommit, .string ms, .slice UA un Uc]) rfl hX.out hM.out) ?_
        simp only [Act.put]
        have x12 := hX.out.cell 12
        have xf12 := hX.out.frozen 12
        have xl2 := hX.out.lt
        change _ = some (Value.slice GA gn Gc) at x12
        refine wpAnyT_one (i := 9) (by kernel_rfl) rfl (fun K hK => ?_)
        go_simp
        refine hK.out _ _ (fun h => absurd h (by decide)) ?_
        clear hK K
        try simp only [Act.put]
        refine wpAnyT_done (by kernel_rfl) ?_ _
        have hX7 : Blk (w6.setCell ⟨w.heap.size, 12, none⟩ (.slice A6 (gn + 1) c6)) w.heap.size 30 #[.int .i64 id, .int .i64 t, .int .i64 v, .int .i64 base, .int .i64 bt, .slice RA n Rc, .string s, .slice VA m Vc, .int .i64 role, .int .i64 lead, .int .i64 timer, .int .i64 commit, .slice A6 (gn + 1) c6, .slice PA pn Pc] := hX.out.set_ 12 _
        have hY7 := hid_mk (hY.out.far (p := ⟨w.heap.size, 12, none⟩) (by dsimp only; omega) (.slice A6 (gn + 1) c6))
        have hI7 : Ints _ 0 A6 (gn + 1) _ := Reads.far hI6 hX.out (Nat.zero_le _) (by decide) 12 (.slice A6 (gn + 1) c6)
        have q7 := q6.setCell (p := ⟨w.heap.size, 12, none⟩) (Nat.le_refl _) (.slice A6 (gn + 1) c6)
        go_wp2_with fail
        go_meet
        exact ⟨A6, gn + 1, c6, hid_mk hX7, by unfold gotM; rw [hzc.out, hpo.out]; exact hI7.more (Nat.zero_le _), hc6, by omega, q7, hY7⟩
  case rest =>
    clear xl x0 x1 x2 x3 x4 x5 x6 x7 x8 x9 x10 x11 x12 x13 xf0 xf1 xf2 xf3 xf4 xf5 xf6 xf7 xf8 xf9 xf10 xf11 xf12 xf13 yl y0 y1 y2 y3 y4 y5 y6 y7 y8 y9 y10 y11 y12 y13 yf0 yf1 yf2 yf3 yf4 yf5 yf6 yf7 yf8 yf9 yf10 yf11 yf12 yf13 ml m0 m1 m2 m3 m4 m5 m6 m7 m8 m9 m10
    clear hX hY hM
    obtain ⟨A6, n6, c6, hX, hI6, hc6, h10, qc, hY⟩ := hcut
    have zc2 := qc.size
    have zy2 := hY.out.lt
    obtain ⟨xl, x0, x1, x2, x3, x4, x5, x6, x7, x8, x9, x10, x11, x12, x13, xf0, xf1, xf2, xf3, xf4, xf5, xf6, xf7, xf8, xf9, xf10, xf11, xf12, xf13⟩ := blk14f hX.out
    obtain ⟨yl, y0, y1, y2, y3, y4, y5, y6, y7, y8, y9, y10, y11, y12, y13, yf0, yf1, yf2, yf3, yf4, yf5, yf6, yf7, yf8, yf9, yf10, yf11, yf12, yf13⟩ := blk14f hY.out
    go_wp2_with fail
    clear xl x0 x1 x2 x3 x4 x5 x6 x7 x8 x9 x10 x11 x12 x13 xf0 xf1 xf2 xf3 xf4 xf5 xf6 xf7 xf8 xf9 xf10 xf11 xf12 xf13 yl y0 y1 y2 y3 y4 y5 y6 y7 y8 y9 y10 y11 y12 y13 yf0 yf1 yf2 yf3 yf4 yf5 yf6 yf7 yf8 yf9 yf10 yf11 yf12 yf13
    refine (Of_any t v ⟨base, bt, rs⟩ RA n Rc s VA m Vc vs _ B B mm (hm2.out _ (by go_grown)) (by omega) (by omega) (hr.to (by go_grown)) (hi.to (by go_grown))).mono ?_
    obtain ⟨RO, hRO⟩ : ∃ R, ofF base 0 (vs, base) rs = R := ⟨_, rfl⟩
    rw [hRO]
    have hvo2 : Hid (RO.1 = vo) := by rw [← hRO]; exact hvo.out
    replace hRO := hid_mk hRO
    obtain ⟨vo', vp⟩ := RO
    obtain rfl : vo' = vo := hvo2.out
    clear hvo2
    rintro e w8 ⟨VA2, vn, vc, rfl, hvI, hvn, hb1⟩
    dsimp only
    have q8 := (after (w := w) hb1 (by go_grown)).1
    replace hX := hid_mk (hX.out.keep (after hb1 (by go_grown)).1)
    replace hY := hid_mk (hY.out.keep (after hb1 (by go_grown)).1)
    replace hI6 := hid_mk (hI6.out.to (after hb1 (by go_grown)).1)
    clear hb1
    replace hvI := hid_mk hvI
    obtain ⟨zw, hzw⟩ : ∃ z, winsL vo' (gotM got fr) = z := ⟨_, rfl⟩
    replace hzw := hid_mk hzw
    go_wp2_with fail
    refine wp_region_T' (fun w' => w'.cell? ⟨w.heap.size, 0, none⟩ = some (.int .i64 id) ∧ w'.cell? ⟨w.heap.size, 1, none⟩ = some (.int .i64 t) ∧ w'.cell? ⟨w.heap.size, 2, none⟩ = some (.int .i64 v) ∧ w'.cell? ⟨w.heap.size, 3, none⟩ = some (.int .i64 base) ∧ w'.cell? ⟨w.heap.size, 4, none⟩ = some (.int .i64 bt) ∧ w'.cell? ⟨w.heap.size, 5, none⟩ = some (.slice RA n Rc) ∧ w'.cell? ⟨w.heap.size, 6, none⟩ = some (.string s) ∧ w'.cell? ⟨w.heap.size, 7, none⟩ = some (.slice VA m Vc) ∧ w'.cell? ⟨w.heap.size, 8, none⟩ = some (.int .i64 role) ∧ w'.cell? ⟨w.heap.size, 9, none⟩ = some (.int .i64 lead) ∧ w'.cell? ⟨w.heap.size, 10, none⟩ = some (.int .i64 timer) ∧ w'.cell? ⟨w.heap.size, 11, none⟩ = some (.int .i64 commit) ∧ w'.cell? ⟨w.heap.size, 12, none⟩ = some (.slice A6 n6 c6) ∧ w'.cell? ⟨w.heap.size, 13, none⟩ = some (.slice PA pn Pc)) (fun j => decide (j < 7)) 7 (by kernel_rfl) (by kernel_rfl) (by exact (blk14c hX.out).2) (fun hS0 => ?_)
    refine wpAnyT_take (i := 0) rfl (by kernel_rfl) (by kernel_rfl) (by kernel_rfl) rfl (by kernel_rfl) (fun _ _ _ h => h) (by kernel_rfl) (fun w' hS => (by obtain ⟨s0, s1, s2, s3, s4, s5, s6, s7, s8, s9, s10, s11, s12, s13⟩ := hS; go_simp; try with_reducible rfl)) hS0 ?_
    simp only [Act.put]
    refine wpAnyT_take (i := 1) rfl (by kernel_rfl) (by kernel_rfl) (by kernel_rfl) rfl (by kernel_rfl) (fun _ _ _ h => h) (by kernel_rfl) (fun w' hS => (by obtain ⟨s0, s1, s2, s3, s4, s5, s6, s7, s8, s9, s10, s11, s12, s13⟩ := hS; go_simp; try with_reducible rfl)) hS0 ?_
    simp only [Act.put]
    refine wpAnyT_take (i := 2) rfl (by kernel_rfl) (by kernel_rfl) (by kernel_rfl) rfl (by kernel_rfl) (fun _ _ _ h => h) (by kernel_rfl) (fun w' hS => (by obtain ⟨s0, s1, s2, s3, s4, s5, s6, s7, s8, s9, s10, s11, s12, s13⟩ := hS; go_simp; try with_reducible rfl)) hS0 ?_
    simp only [Act.put]
    refine wpAnyT_take (i := 3) rfl (by kernel_rfl) (by kernel_rfl) (by kernel_rfl) rfl (by kernel_rfl) (fun _ _ _ h => h) (by kernel_rfl) (fun w' hS => (by obtain ⟨s0, s1, s2, s3, s4, s5, s6, s7, s8, s9, s10, s11, s12, s13⟩ := hS; go_simp; try with_reducible rfl)) hS0 ?_
    simp only [Act.put]
    refine wpAnyT_one (i := 4) (by kernel_rfl) rfl (fun K hK => ?_)
    go_simp
    refine (Wins_any VA2 vn vc vo' A6 n6 c6 (gotM got fr) _ B hvn (by omega) ((hvI.out.to (by go_grown)).more (Nat.zero_le _)) (hI6.out.to (by go_grown))).mono ?_
    rw [hzw.out]
    rintro e wb ⟨rfl, hb1⟩
    have qb := (after (w := w) hb1 (by go_grown)).1
    replace hX := hid_mk (hX.out.keep (after hb1 (by go_grown)).1)
    replace hY := hid_mk (hY.out.keep (after hb1 (by go_grown)).1)
    replace hI6 := hid_mk (hI6.out.to (after hb1 (by go_grown)).1)
    clear hb1
    refine hK.out _ _ (fun _ => (blk14c hX.out).2) ?_
    clear hK K
    try simp only [Act.put]
    obtain ⟨yl, y0, y1, y2, y3, y4, y5, y6, y7, y8, y9, y10, y11, y12, y13, yf0, yf1, yf2, yf3, yf4, yf5, yf6, yf7, yf8, yf9, yf10, yf11, yf12, yf13⟩ := blk14f hY.out
    refine wpAnyT_one (i := 5) (by kernel_rfl) rfl (fun K hK => ?_)
    go_simp
    clear yl y0 y1 y2 y3 y4 y5 y6 y7 y8 y9 y10 y11 y12 y13 yf0 yf1 yf2 yf3 yf4 yf5 yf6 yf7 yf8 yf9 yf10 yf11 yf12 yf13
    replace hX := hid_mk (set14_farS hX.out (by omega : w.heap.size ≠ w.heap.size + 1 + 1) (.int .i64 id) (.int .i64 t) (.int .i64 v) (.int .i64 base) (.int .i64 bt) (.slice RA n Rc) (.string s) (.slice VA m Vc) (.int .i64 role) (.int .i64 lead) (.int .i64 timer) (.int .i64 commit) (.slice A6 n6 c6) (.slice PA pn Pc))
    skip
    have qz := set14_below (.int .i64 id) (.int .i64 t) (.int .i64 v) (.int .i64 base) (.int .i64 bt) (.slice RA n Rc) (.string s) (.slice VA m Vc) (.int .i64 role) (.int .i64 lead) (.int .i64 timer) (.int .i64 commit) (.slice A6 n6 c6) (.slice PA pn Pc) qb (by omega : w.heap.size ≤ w.heap.size + 1 + 1)
    have hI7 := ints14 hI6.out hY.out (by decide) hBy (.int .i64 id) (.int .i64 t) (.int .i64 v) (.int .i64 base) (.int .i64 bt) (.slice RA n Rc) (.string s) (.slice VA m Vc) (.int .i64 role) (.int .i64 lead) (.int .i64 timer) (.int .i64 commit) (.slice A6 n6 c6) (.slice PA pn Pc)
    replace hY := hid_mk (set14_blk hY.out (.int .i64 id) (.int .i64 t) (.int .i64 v) (.int .i64 base) (.int .i64 bt) (.slice RA n Rc) (.string s) (.slice VA m Vc) (.int .i64 role) (.int .i64 lead) (.int .i64 timer) (.int .i64 commit) (.slice A6 n6 c6) (.slice PA pn Pc))
    obtain ⟨wz, hwz⟩ : ∃ wz, set14 wb (w.heap.size + 1 + 1) (.int .i64 id) (.int .i64 t) (.int .i64 v) (.int .i64 base) (.int .i64 bt) (.slice RA n Rc) (.string s) (.slice VA m Vc) (.int .i64 role) (.int .i64 lead) (.int .i64 timer) (.int .i64 commit) (.slice A6 n6 c6) (.slice PA pn Pc) = wz := ⟨_, rfl⟩
    rw [hwz] at hX hI7 hY qz
    unfold set14 at hwz
    rw [hwz]
    clear hwz
    refine hK.out _ _ (fun _ => (blk14c hX.out).2) ?_
    clear hK K
    try simp only [Act.put]
    refine wpAnyT_one (i := 6) (by kernel_rfl) rfl (fun K hK => ?_)
    go_simp
    refine hK.out _ _ (fun _ => (blk14c hX.out).2) ?_
    clear hK K
    try simp only [Act.put]
    refine wpAnyT_done (by kernel_rfl) ?_ _
    obtain ⟨_, r0, r1, r2, r3, r4, r5, r6, r7, r8, r9, r10, r11, r12, r13⟩ := blk14c hY.out
    go_wp2
    refine ends_ret hQ (v := .tuple #[.agg #[.int .i64 id, .int .i64 t, .int .i64 v, .int .i64 base, .int .i64 bt, .slice RA n Rc, .string s, .slice VA m Vc, .int .i64 role, .int .i64 lead, .int .i64 timer, .int .i64 commit, .slice A6 n6 c6, .slice PA pn Pc], .bool zw]) (by simp [results, Tryz.results15, go_sem, r0, r1, r2, r3, r4, r5, r6, r7, r8, r9, r10, r11, r12, r13]) rfl ?_
    refine ⟨⟨⟨⟨RA, n, Rc⟩, ⟨VA, m, Vc⟩, ⟨A6, n6, c6⟩, ⟨PA, pn, Pc⟩⟩, ?_, ?_⟩, qz⟩
    · rw [hy.out.1, hy.out.2, hzw.out]; rfl
    · rw [hy.out.1]; exact ⟨hN0.recs.to qz, hN0.rc, hN0.rb, hN0.vs.to qz, hN0.vc, hN0.vb, hN0.sb, hI7, hc6, by dsimp only; omega, hN0.ps.to qz, hN0.pc, hN0.pb⟩
end Go.Proofs.YtnaindoeihnmpaaGreatDoor
