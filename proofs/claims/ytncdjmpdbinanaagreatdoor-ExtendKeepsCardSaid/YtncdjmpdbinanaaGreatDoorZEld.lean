/-
  WHAT IS PROVED HERE: what extend.Lead hands back of any node. Conditions: the slices are of at most 2^47 bytes; the library's table and MaxLen stand.
-/
import Derived.Test.YtncdjmpdbinanaaGreatDoorZEsr
import Derived.Test.YtncdjmpdbinanaaGreatDoorZGPsr
import Derived.Test.YtncdjmpdbinanaaGreatDoorZEwi
import Derived.Test.YtncdjmpdbinanaaGreatDoorZGNd
namespace Go.Proofs.YtncdjmpdbinanaaGreatDoor
open Go.RowKit

set_option maxRecDepth 100000 in
set_option maxHeartbeats 12800000 in
theorem ELead1_any (N : Nd) (a : NdA) (w : World) {B : Nat} (_hBw : B ≤ w.heap.size) (hN : NdOk w B N a) (ht : Tab w) (mm : Int) (hm : w.cell? ⟨0, 0, none⟩ = some (.int .i64 mm)) (hK : (rightN N && N.role == 1) = false) :
    Calls Tryz.prog 24 #[nodeV N a] w (RetNMs w B (leadN N) (leadL N)) := by
  have hm2 : Hid (∀ w', Below w.heap.size w w' → w'.cell? ⟨0, 0, none⟩ = some (.int .i64 mm)) := fun w' hb => (hb.cell (p := ⟨0, 0, none⟩) (cell_lt hm)).trans hm
  clear hm
  obtain ⟨zr, hzr⟩ : ∃ z, rightN N = z := ⟨_, rfl⟩
  obtain ⟨vo, hvo⟩ : ∃ x, votersN N = x := ⟨_, rfl⟩
  obtain ⟨la, hla⟩ : ∃ x, lastJ N.h.l = x := ⟨_, rfl⟩
  obtain ⟨NL, hNL⟩ : ∃ x, leadN N = x := ⟨_, rfl⟩
  obtain ⟨LL, hLL⟩ : ∃ x, leadL N = x := ⟨_, rfl⟩
  obtain ⟨W2, hW2⟩ : ∃ x, leadW N = x := ⟨_, rfl⟩
  obtain ⟨zh, hzh⟩ : ∃ z, rightH (withH N.h ⟨N.h.t, 0, ⟨#[]⟩⟩) = z := ⟨_, rfl⟩
  obtain ⟨NB0, hNB0⟩ : ∃ x, leadB N = x := ⟨_, rfl⟩
  obtain ⟨NW, hNW⟩ : ∃ x, hdN (leadB N) (withH N.h ⟨N.h.t, 0, ⟨#[]⟩⟩) = x := ⟨_, rfl⟩
  rw [hzr] at hK
  have hno : Hid ((zr && N.role == 1) = false → NL = N ∧ LL = []) := fun e => by
    have hc : leadC N = false := by unfold leadC; rw [hzr]; exact e
    rw [← hNL, ← hLL]
    unfold leadN leadL
    rw [hc]
    exact ⟨rfl, rfl⟩
  have hyes : Hid ((zr && N.role == 1) = true → NL = sureN W2 ∧ LL = allM (sureN W2) ∧ rightN W2 = true) := fun e => by
    have hc : leadC N = true := by unfold leadC; rw [hzr]; exact e
    simp only [Bool.and_eq_true, beq_iff_eq] at e
    rw [← hNL, ← hLL, ← hW2]
    unfold leadN leadL
    rw [hc]
    exact ⟨rfl, rfl, (lead_right (by rw [hzr]; exact e.1) e.2).1⟩
  have hWt : Hid (zh = true → W2 = NW) := fun e => by
    rw [← hW2, ← hNW]
    unfold leadW
    rw [hzh, if_pos e]
  have hWf : Hid (zh = false → W2 = NB0) := fun e => by
    rw [← hW2, ← hNB0]
    unfold leadW
    rw [hzh, if_neg (by rw [e]; exact Bool.false_ne_true)]
  have hrt : Hid (zr = true → rightJ N.h.l = true ∧ rightL vo = true ∧ 0 ≤ la ∧ la ≤ 1073741824) := fun e => by
    have hr0 : rightN N = true := by rw [hzr]; exact e
    have hn := right_n hr0
    have hcb := commit_bounds hr0
    refine ⟨hn.1, by rw [← hvo]; exact of_right N.h.l.base N.h.l.rs hn.2.1, by omega, by omega⟩
  have hER := ERight_any N a
  rw [hzr] at hER
  have hEW := fun (a' : NdA) (w : World) (h0 : B ≤ w.heap.size) (k : NdOk w B NB0 a') (hj : rightJ N.h.l = true) (ht : Tab w) => EWith_any NB0 a' ⟨N.h.t, 0, ⟨#[]⟩⟩ w h0 k (by rw [← hNB0]; exact hj) ht
  have e1 : hdN NB0 (withH NB0.h ⟨N.h.t, 0, ⟨#[]⟩⟩) = NW := by rw [← hNW, ← hNB0]; rfl
  have e2 : rightH (withH NB0.h ⟨N.h.t, 0, ⟨#[]⟩⟩) = zh := by rw [← hzh, ← hNB0]; rfl
  rw [e1, e2] at hEW
  have hNBe : Hid (NB0 = ⟨N.id, N.h, 2, N.id, 2, N.commit, [], peersF vo N.id (la + 1) []⟩) := by
    rw [Hid, ← hNB0, ← hvo, ← hla]
    rfl
  have hEL := fun (w : World) (k : NdOk w B ⟨N.id, N.h, 2, N.id, 2, N.commit, [], N.ps⟩ ⟨a.R, a.V, ⟨none, 0, 0⟩, a.P⟩) (hj : rightJ N.h.l = true) => ELast_any ⟨N.id, N.h, 2, N.id, 2, N.commit, [], N.ps⟩ ⟨a.R, a.V, ⟨none, 0, 0⟩, a.P⟩ w k hj
  dsimp only at hEL
  rw [hla] at hEL
  rw [hNL, hLL]
  have hN4 : ∀ w', Below w.heap.size w w' → NdOk w' B ⟨N.id, N.h, 2, N.id, 2, N.commit, [], N.ps⟩ ⟨a.R, a.V, ⟨none, 0, 0⟩, a.P⟩ := fun w' q => by
    have h := hN.to q
    exact ⟨h.recs, h.rc, h.rb, h.vs, h.vc, h.vb, h.sb, Reads.none_, Nat.le_refl _, by dsimp only; omega, h.ps, h.pc, h.pb⟩
  obtain ⟨PS, hPS⟩ : ∃ x, peersF vo N.id (la + 1) [] = x := ⟨_, rfl⟩
  rw [hPS] at hNBe
  unfold votersN at hvo
  replace hN4 := hid_mk hN4
  replace hPS := hid_mk hPS
  clear hNL hLL hW2 hzh hNB0 hNW e1 e2 hzr hla
  have hN0 := hN
  obtain ⟨hr, hrc, hrb, hi, hvc, hvb, _, _, _, _, _, _, _⟩ := hN
  obtain ⟨id, ⟨t, v, ⟨base, bt, rs⟩, s, vs⟩, role, lead, timer, commit, got, ps⟩ := N
  obtain ⟨⟨RA, n, Rc⟩, ⟨VA, m, Vc⟩, ⟨GA, gn, Gc⟩, ⟨PA, pn, Pc⟩⟩ := a
  unfold nodeV at hER hEL
  dsimp only at hr hrc hrb hi hvc hvb hno hyes hrt hER hEW hNBe hEL hN4 hvo hPS hK
  replace hK := hid_mk hK
  replace hvo := hid_mk hvo
  have hX := hid_mk ((Blk.new w 30 #[.int .i64 id, .int .i64 t, .int .i64 v, .int .i64 base, .int .i64 bt, .slice RA n Rc, .string s, .slice VA m Vc, .int .i64 role, .int .i64 lead, .int .i64 timer, .int .i64 commit, .slice GA gn Gc, .slice PA pn Pc]).alloc (.cells #[.int .i64 0, .int .i64 0, .int .i64 0, .int .i64 0, .int .i64 0, .slice none 0 0, .string ⟨#[]⟩, .slice none 0 0, .int .i64 0, .int .i64 0, .int .i64 0, .int .i64 0, .slice none 0 0, .slice none 0 0] 30))
  have hY : Hid (Blk ((w.alloc (.cells #[.int .i64 id, .int .i64 t, .int .i64 v, .int .i64 base, .int .i64 bt, .slice RA n Rc, .string s, .slice VA m Vc, .int .i64 role, .int .i64 lead, .int .i64 timer, .int .i64 commit, .slice GA gn Gc, .slice PA pn Pc] 30)).alloc (.cells #[.int .i64 0, .int .i64 0, .int .i64 0, .int .i64 0, .int .i64 0, .slice none 0 0, .string ⟨#[]⟩, .slice none 0 0, .int .i64 0, .int .i64 0, .int .i64 0, .int .i64 0, .slice none 0 0, .slice none 0 0] 30)) (w.heap.size + 1) 30 #[.int .i64 0, .int .i64 0, .int .i64 0, .int .i64 0, .int .i64 0, .slice none 0 0, .string ⟨#[]⟩, .slice none 0 0, .int .i64 0, .int .i64 0, .int .i64 0, .int .i64 0, .slice none 0 0, .slice none 0 0]) := Blk.new_ (by simp)
  show Calls Tryz.prog 24 #[.agg #[.int .i64 id, .int .i64 t, .int .i64 v, .int .i64 base, .int .i64 bt, .slice RA n Rc, .string s, .slice VA m Vc, .int .i64 role, .int .i64 lead, .int .i64 timer, .int .i64 commit, .slice GA gn Gc, .slice PA pn Pc]] w _
  refine calls_of_wpQ Tryz.func24 rfl ?_
  intro Q hQ
  simp only [Tryz.ntmps24, List.size_toArray, List.length_cons, List.length_nil, Nat.reduceAdd, Nat.reduceSub, Array.replicate_succ, Array.replicate_zero, List.push_toArray, List.append_toArray, List.nil_append, List.cons_append]
  go_wp2_with fail
  refine (hER _ (B := B) (hN0.to (by go_grown)) (ht.to (by go_grown))).mono ?_
  rintro e w1 ⟨rfl, hb1⟩
  have q1 := (after (w := w) hb1 (by go_grown)).1
  replace hX := hid_mk (hX.out.keep (after hb1 (by go_grown)).1)
  replace hY := hid_mk (hY.out.keep (after hb1 (by go_grown)).1)
  clear hb1
  cases zr
  case false =>
    have hn := hid_mk (hno.out (rfl))
    obtain ⟨xl, x0, x1, x2, x3, x4, x5, x6, x7, x8, x9, x10, x11, x12, x13, xf0, xf1, xf2, xf3, xf4, xf5, xf6, xf7, xf8, xf9, xf10, xf11, xf12, xf13⟩ := blk14f hX.out
    obtain ⟨yl, y0, y1, y2, y3, y4, y5, y6, y7, y8, y9, y10, y11, y12, y13, yf0, yf1, yf2, yf3, yf4, yf5, yf6, yf7, yf8, yf9, yf10, yf11, yf12, yf13⟩ := blk14f hY.out
    go_wp2
    clear xl x0 x1 x2 x3 x4 x5 x6 x7 x8 x9 x10 x11 x12 x13 xf0 xf1 xf2 xf3 xf4 xf5 xf6 xf7 xf8 xf9 xf10 xf11 xf12 xf13
    clear yl y0 y1 y2 y3 y4 y5 y6 y7 y8 y9 y10 y11 y12 y13 yf0 yf1 yf2 yf3 yf4 yf5 yf6 yf7 yf8 yf9 yf10 yf11 yf12 yf13
    have kfin := set14_blk hY.out (.int .i64 id) (.int .i64 t) (.int .i64 v) (.int .i64 base) (.int .i64 bt) (.slice RA n Rc) (.string s) (.slice VA m Vc) (.int .i64 role) (.int .i64 lead) (.int .i64 timer) (.int .i64 commit) (.slice GA gn Gc) (.slice PA pn Pc)
    unfold set14 at kfin
    obtain ⟨_, r0, r1, r2, r3, r4, r5, r6, r7, r8, r9, r10, r11, r12, r13⟩ := blk14c kfin
    refine ends_ret hQ (v := .tuple #[.agg #[.int .i64 id, .int .i64 t, .int .i64 v, .int .i64 base, .int .i64 bt, .slice RA n Rc, .string s, .slice VA m Vc, .int .i64 role, .int .i64 lead, .int .i64 timer, .int .i64 commit, .slice GA gn Gc, .slice PA pn Pc], .slice none 0 0]) (by simp [results, Tryz.results24, go_sem, r0, r1, r2, r3, r4, r5, r6, r7, r8, r9, r10, r11, r12, r13]) rfl ?_
    exact ⟨⟨⟨RA, n, Rc⟩, ⟨VA, m, Vc⟩, ⟨GA, gn, Gc⟩, ⟨PA, pn, Pc⟩⟩, none, 0, 0, [], by rw [hn.out.1]; rfl, by rw [hn.out.1]; exact hN0.to (set14_below (.int .i64 id) (.int .i64 t) (.int .i64 v) (.int .i64 base) (.int .i64 bt) (.slice RA n Rc) (.string s) (.slice VA m Vc) (.int .i64 role) (.int .i64 lead) (.int .i64 timer) (.int .i64 commit) (.slice GA gn Gc) (.slice PA pn Pc) q1 (by omega)), mgs_nil, by rw [hn.out.2]; rfl, Nat.le_refl _, set14_below (.int .i64 id) (.int .i64 t) (.int .i64 v) (.int .i64 base) (.int .i64 bt) (.slice RA n Rc) (.string s) (.slice VA m Vc) (.int .i64 role) (.int .i64 lead) (.int .i64 timer) (.int .i64 commit) (.slice GA gn Gc) (.slice PA pn Pc) q1 (by omega)⟩
  by_cases g1 : role = 1
  case neg =>
    have g1' : (role != 1) = true := by simpa using g1
    have g1n := hid_mk (show (true && role == 1) = false by simpa using g1)
    replace g1 := hid_mk g1
    have hn := hid_mk (hno.out (g1n.out))
    obtain ⟨xl, x0, x1, x2, x3, x4, x5, x6, x7, x8, x9, x10, x11, x12, x13, xf0, xf1, xf2, xf3, xf4, xf5, xf6, xf7, xf8, xf9, xf10, xf11, xf12, xf13⟩ := blk14f hX.out
    obtain ⟨yl, y0, y1, y2, y3, y4, y5, y6, y7, y8, y9, y10, y11, y12, y13, yf0, yf1, yf2, yf3, yf4, yf5, yf6, yf7, yf8, yf9, yf10, yf11, yf12, yf13⟩ := blk14f hY.out
    go_wp2
    clear xl x0 x1 x2 x3 x4 x5 x6 x7 x8 x9 x10 x11 x12 x13 xf0 xf1 xf2 xf3 xf4 xf5 xf6 xf7 xf8 xf9 xf10 xf11 xf12 xf13
    clear yl y0 y1 y2 y3 y4 y5 y6 y7 y8 y9 y10 y11 y12 y13 yf0 yf1 yf2 yf3 yf4 yf5 yf6 yf7 yf8 yf9 yf10 yf11 yf12 yf13
    have kfin := set14_blk hY.out (.int .i64 id) (.int .i64 t) (.int .i64 v) (.int .i64 base) (.int .i64 bt) (.slice RA n Rc) (.string s) (.slice VA m Vc) (.int .i64 role) (.int .i64 lead) (.int .i64 timer) (.int .i64 commit) (.slice GA gn Gc) (.slice PA pn Pc)
    unfold set14 at kfin
    obtain ⟨_, r0, r1, r2, r3, r4, r5, r6, r7, r8, r9, r10, r11, r12, r13⟩ := blk14c kfin
    refine ends_ret hQ (v := .tuple #[.agg #[.int .i64 id, .int .i64 t, .int .i64 v, .int .i64 base, .int .i64 bt, .slice RA n Rc, .string s, .slice VA m Vc, .int .i64 role, .int .i64 lead, .int .i64 timer, .int .i64 commit, .slice GA gn Gc, .slice PA pn Pc], .slice none 0 0]) (by simp [results, Tryz.results24, go_sem, r0, r1, r2, r3, r4, r5, r6, r7, r8, r9, r10, r11, r12, r13]) rfl ?_
    exact ⟨⟨⟨RA, n, Rc⟩, ⟨VA, m, Vc⟩, ⟨GA, gn, Gc⟩, ⟨PA, pn, Pc⟩⟩, none, 0, 0, [], by rw [hn.out.1]; rfl, by rw [hn.out.1]; exact hN0.to (set14_below (.int .i64 id) (.int .i64 t) (.int .i64 v) (.int .i64 base) (.int .i64 bt) (.slice RA n Rc) (.string s) (.slice VA m Vc) (.int .i64 role) (.int .i64 lead) (.int .i64 timer) (.int .i64 commit) (.slice GA gn Gc) (.slice PA pn Pc) q1 (by omega)), mgs_nil, by rw [hn.out.2]; rfl, Nat.le_refl _, set14_below (.int .i64 id) (.int .i64 t) (.int .i64 v) (.int .i64 base) (.int .i64 bt) (.slice RA n Rc) (.string s) (.slice VA m Vc) (.int .i64 role) (.int .i64 lead) (.int .i64 timer) (.int .i64 commit) (.slice GA gn Gc) (.slice PA pn Pc) q1 (by omega)⟩
  exact absurd hK.out (by rw [g1]; decide)
set_option maxRecDepth 100000 in
set_option maxHeartbeats 12800000 in
theorem ELead2_any (N : Nd) (a : NdA) (w : World) {B : Nat} (hBw : B ≤ w.heap.size) (hN : NdOk w B N a) (ht : Tab w) (mm : Int) (hm : w.cell? ⟨0, 0, none⟩ = some (.int .i64 mm)) (hA : rightN N = true ∧ N.role = 1) (hB : rightH (withH N.h ⟨N.h.t, 0, ⟨#[]⟩⟩) = false) :
    Calls Tryz.prog 24 #[nodeV N a] w (RetNMs w B (leadN N) (leadL N)) := by
  have hm2 : Hid (∀ w', Below w.heap.size w w' → w'.cell? ⟨0, 0, none⟩ = some (.int .i64 mm)) := fun w' hb => (hb.cell (p := ⟨0, 0, none⟩) (cell_lt hm)).trans hm
  clear hm
  obtain ⟨zr, hzr⟩ : ∃ z, rightN N = z := ⟨_, rfl⟩
  obtain ⟨vo, hvo⟩ : ∃ x, votersN N = x := ⟨_, rfl⟩
  obtain ⟨la, hla⟩ : ∃ x, lastJ N.h.l = x := ⟨_, rfl⟩
  obtain ⟨NL, hNL⟩ : ∃ x, leadN N = x := ⟨_, rfl⟩
  obtain ⟨LL, hLL⟩ : ∃ x, leadL N = x := ⟨_, rfl⟩
  obtain ⟨W2, hW2⟩ : ∃ x, leadW N = x := ⟨_, rfl⟩
  obtain ⟨zh, hzh⟩ : ∃ z, rightH (withH N.h ⟨N.h.t, 0, ⟨#[]⟩⟩) = z := ⟨_, rfl⟩
  obtain ⟨NB0, hNB0⟩ : ∃ x, leadB N = x := ⟨_, rfl⟩
  obtain ⟨NW, hNW⟩ : ∃ x, hdN (leadB N) (withH N.h ⟨N.h.t, 0, ⟨#[]⟩⟩) = x := ⟨_, rfl⟩
  rw [hzr] at hA
  rw [hzh] at hB
  have hno : Hid ((zr && N.role == 1) = false → NL = N ∧ LL = []) := fun e => by
    have hc : leadC N = false := by unfold leadC; rw [hzr]; exact e
    rw [← hNL, ← hLL]
    unfold leadN leadL
    rw [hc]
    exact ⟨rfl, rfl⟩
  have hyes : Hid ((zr && N.role == 1) = true → NL = sureN W2 ∧ LL = allM (sureN W2) ∧ rightN W2 = true) := fun e => by
    have hc : leadC N = true := by unfold leadC; rw [hzr]; exact e
    simp only [Bool.and_eq_true, beq_iff_eq] at e
    rw [← hNL, ← hLL, ← hW2]
    unfold leadN leadL
    rw [hc]
    exact ⟨rfl, rfl, (lead_right (by rw [hzr]; exact e.1) e.2).1⟩
  have hWt : Hid (zh = true → W2 = NW) := fun e => by
    rw [← hW2, ← hNW]
    unfold leadW
    rw [hzh, if_pos e]
  have hWf : Hid (zh = false → W2 = NB0) := fun e => by
    rw [← hW2, ← hNB0]
    unfold leadW
    rw [hzh, if_neg (by rw [e]; exact Bool.false_ne_true)]
  have hrt : Hid (zr = true → rightJ N.h.l = true ∧ rightL vo = true ∧ 0 ≤ la ∧ la ≤ 1073741824) := fun e => by
    have hr0 : rightN N = true := by rw [hzr]; exact e
    have hn := right_n hr0
    have hcb := commit_bounds hr0
    refine ⟨hn.1, by rw [← hvo]; exact of_right N.h.l.base N.h.l.rs hn.2.1, by omega, by omega⟩
  have hER := ERight_any N a
  rw [hzr] at hER
  have hEW := fun (a' : NdA) (w : World) (h0 : B ≤ w.heap.size) (k : NdOk w B NB0 a') (hj : rightJ N.h.l = true) (ht : Tab w) => EWith_any NB0 a' ⟨N.h.t, 0, ⟨#[]⟩⟩ w h0 k (by rw [← hNB0]; exact hj) ht
  have e1 : hdN NB0 (withH NB0.h ⟨N.h.t, 0, ⟨#[]⟩⟩) = NW := by rw [← hNW, ← hNB0]; rfl
  have e2 : rightH (withH NB0.h ⟨N.h.t, 0, ⟨#[]⟩⟩) = zh := by rw [← hzh, ← hNB0]; rfl
  rw [e1, e2] at hEW
  have hNBe : Hid (NB0 = ⟨N.id, N.h, 2, N.id, 2, N.commit, [], peersF vo N.id (la + 1) []⟩) := by
    rw [Hid, ← hNB0, ← hvo, ← hla]
    rfl
  have hEL := fun (w : World) (k : NdOk w B ⟨N.id, N.h, 2, N.id, 2, N.commit, [], N.ps⟩ ⟨a.R, a.V, ⟨none, 0, 0⟩, a.P⟩) (hj : rightJ N.h.l = true) => ELast_any ⟨N.id, N.h, 2, N.id, 2, N.commit, [], N.ps⟩ ⟨a.R, a.V, ⟨none, 0, 0⟩, a.P⟩ w k hj
  dsimp only at hEL
  rw [hla] at hEL
  rw [hNL, hLL]
  have hN4 : ∀ w', Below w.heap.size w w' → NdOk w' B ⟨N.id, N.h, 2, N.id, 2, N.commit, [], N.ps⟩ ⟨a.R, a.V, ⟨none, 0, 0⟩, a.P⟩ := fun w' q => by
    have h := hN.to q
    exact ⟨h.recs, h.rc, h.rb, h.vs, h.vc, h.vb, h.sb, Reads.none_, Nat.le_refl _, by dsimp only; omega, h.ps, h.pc, h.pb⟩
  obtain ⟨PS, hPS⟩ : ∃ x, peersF vo N.id (la + 1) [] = x := ⟨_, rfl⟩
  rw [hPS] at hNBe
  unfold votersN at hvo
  replace hN4 := hid_mk hN4
  replace hPS := hid_mk hPS
  clear hNL hLL hW2 hzh hNB0 hNW e1 e2 hzr hla
  have hN0 := hN
  obtain ⟨hr, hrc, hrb, hi, hvc, hvb, _, _, _, _, _, _, _⟩ := hN
  obtain ⟨id, ⟨t, v, ⟨base, bt, rs⟩, s, vs⟩, role, lead, timer, commit, got, ps⟩ := N
  obtain ⟨⟨RA, n, Rc⟩, ⟨VA, m, Vc⟩, ⟨GA, gn, Gc⟩, ⟨PA, pn, Pc⟩⟩ := a
  unfold nodeV at hER hEL
  dsimp only at hr hrc hrb hi hvc hvb hno hyes hrt hER hEW hNBe hEL hN4 hvo hPS hA hB
  replace hA := hid_mk hA
  replace hB := hid_mk hB
  replace hvo := hid_mk hvo
  have hX := hid_mk ((Blk.new w 30 #[.int .i64 id, .int .i64 t, .int .i64 v, .int .i64 base, .int .i64 bt, .slice RA n Rc, .string s, .slice VA m Vc, .int .i64 role, .int .i64 lead, .int .i64 timer, .int .i64 commit, .slice GA gn Gc, .slice PA pn Pc]).alloc (.cells #[.int .i64 0, .int .i64 0, .int .i64 0, .int .i64 0, .int .i64 0, .slice none 0 0, .string ⟨#[]⟩, .slice none 0 0, .int .i64 0, .int .i64 0, .int .i64 0, .int .i64 0, .slice none 0 0, .slice none 0 0] 30))
  have hY : Hid (Blk ((w.alloc (.cells #[.int .i64 id, .int .i64 t, .int .i64 v, .int .i64 base, .int .i64 bt, .slice RA n Rc, .string s, .slice VA m Vc, .int .i64 role, .int .i64 lead, .int .i64 timer, .int .i64 commit, .slice GA gn Gc, .slice PA pn Pc] 30)).alloc (.cells #[.int .i64 0, .int .i64 0, .int .i64 0, .int .i64 0, .int .i64 0, .slice none 0 0, .string ⟨#[]⟩, .slice none 0 0, .int .i64 0, .int .i64 0, .int .i64 0, .int .i64 0, .slice none 0 0, .slice none 0 0] 30)) (w.heap.size + 1) 30 #[.int .i64 0, .int .i64 0, .int .i64 0, .int .i64 0, .int .i64 0, .slice none 0 0, .string ⟨#[]⟩, .slice none 0 0, .int .i64 0, .int .i64 0, .int .i64 0, .int .i64 0, .slice none 0 0, .slice none 0 0]) := Blk.new_ (by simp)
  show Calls Tryz.prog 24 #[.agg #[.int .i64 id, .int .i64 t, .int .i64 v, .int .i64 base, .int .i64 bt, .slice RA n Rc, .string s, .slice VA m Vc, .int .i64 role, .int .i64 lead, .int .i64 timer, .int .i64 commit, .slice GA gn Gc, .slice PA pn Pc]] w _
  refine calls_of_wpQ Tryz.func24 rfl ?_
  intro Q hQ
  simp only [Tryz.ntmps24, List.size_toArray, List.length_cons, List.length_nil, Nat.reduceAdd, Nat.reduceSub, Array.replicate_succ, Array.replicate_zero, List.push_toArray, List.append_toArray, List.nil_append, List.cons_append]
  go_wp2_with fail
  refine (hER _ (B := B) (hN0.to (by go_grown)) (ht.to (by go_grown))).mono ?_
  rintro e w1 ⟨rfl, hb1⟩
  have q1 := (after (w := w) hb1 (by go_grown)).1
  replace hX := hid_mk (hX.out.keep (after hb1 (by go_grown)).1)
  replace hY := hid_mk (hY.out.keep (after hb1 (by go_grown)).1)
  clear hb1
  cases zr
  case false =>
    exact absurd hA.out.1 (by decide)
  by_cases g1 : role = 1
  case neg =>
    have g1' : (role != 1) = true := by simpa using g1
    have g1n := hid_mk (show (true && role == 1) = false by simpa using g1)
    replace g1 := hid_mk g1
    exact absurd hA.out.2 g1.out
  have g1' : (role != 1) = false := by simpa using g1
  obtain ⟨hy1, hy2, hy3⟩ := hyes.out (by simpa using g1)
  replace hy1 := hid_mk hy1
  replace hy2 := hid_mk hy2
  replace hy3 := hid_mk hy3
  obtain ⟨hj, hvr, hla0, hla1⟩ := hrt.out rfl
  replace hj := hid_mk hj
  replace hvr := hid_mk hvr
  replace g1 := hid_mk g1
  clear hno hyes hrt hER
  obtain ⟨xl, x0, x1, x2, x3, x4, x5, x6, x7, x8, x9, x10, x11, x12, x13, xf0, xf1, xf2, xf3, xf4, xf5, xf6, xf7, xf8, xf9, xf10, xf11, xf12, xf13⟩ := blk14f hX.out
  go_wp2_with fail
  clear xl x0 x1 x2 x3 x4 x5 x6 x7 x8 x9 x10 x11 x12 x13 xf0 xf1 xf2 xf3 xf4 xf5 xf6 xf7 xf8 xf9 xf10 xf11 xf12 xf13
  refine (Of_any t v ⟨base, bt, rs⟩ RA n Rc s VA m Vc vs _ B B mm (hm2.out _ q1) (by omega) (by omega) (hr.to q1) (hi.to q1)).mono ?_
  rintro e w2 ⟨VA2, vn, vc, rfl, hvI, hvn, hb1⟩
  dsimp only at hvI
  rw [hvo.out] at hvI
  have hv7 : vn ≤ 7 := by
    have h1 := hvI.len
    have h2 := (right_len hvr.out).2
    omega
  have q2 := (after (w := w) hb1 q1).1
  replace hX := hid_mk (hX.out.keep hb1)
  replace hY := hid_mk (hY.out.keep hb1)
  replace hvI := hid_mk hvI
  clear hb1 q1 hvo
  obtain ⟨xl, x0, x1, x2, x3, x4, x5, x6, x7, x8, x9, x10, x11, x12, x13, xf0, xf1, xf2, xf3, xf4, xf5, xf6, xf7, xf8, xf9, xf10, xf11, xf12, xf13⟩ := blk14f hX.out
  go_upto_region 5 with fail
  clear xl x0 x1 x2 x3 x4 x5 x6 x7 x8 x9 x10 x11 x12 x13 xf0 xf1 xf2 xf3 xf4 xf5 xf6 xf7 xf8 xf9 xf10 xf11 xf12 xf13
  have hX4 : Blk ((((w2.setCell ⟨w.heap.size, 8, none⟩ (.int .i64 2)).setCell ⟨w.heap.size, 9, none⟩ (.int .i64 id)).setCell ⟨w.heap.size, 12, none⟩ (.slice none 0 0)).setCell ⟨w.heap.size, 10, none⟩ (.int .i64 2)) (w.heap.size) 30 #[.int .i64 id, .int .i64 t, .int .i64 v, .int .i64 base, .int .i64 bt, .slice RA n Rc, .string s, .slice VA m Vc, .int .i64 2, .int .i64 id, .int .i64 2, .int .i64 commit, .slice none 0 0, .slice PA pn Pc] := ((((hX.out.set_ 8 (.int .i64 2)).set_ 9 (.int .i64 id)).set_ 12 (.slice none 0 0)).set_ 10 (.int .i64 2))
  have hY4 := ((((hY.out.far (p := ⟨w.heap.size, 8, none⟩) (by simp) (.int .i64 2)).far (p := ⟨w.heap.size, 9, none⟩) (by simp) (.int .i64 id)).far (p := ⟨w.heap.size, 12, none⟩) (by simp) (.slice none 0 0)).far (p := ⟨w.heap.size, 10, none⟩) (by simp) (.int .i64 2))
  have hv4 : Ints ((((w2.setCell ⟨w.heap.size, 8, none⟩ (.int .i64 2)).setCell ⟨w.heap.size, 9, none⟩ (.int .i64 id)).setCell ⟨w.heap.size, 12, none⟩ (.slice none 0 0)).setCell ⟨w.heap.size, 10, none⟩ (.int .i64 2)) 0 VA2 vn vo := (Reads.far (Reads.far (Reads.far (Reads.far hvI.out hX.out (Nat.zero_le _) (by decide) 8 (.int .i64 2)) (hX.out.set_ 8 (.int .i64 2)) (Nat.zero_le _) (by decide) 9 (.int .i64 id)) ((hX.out.set_ 8 (.int .i64 2)).set_ 9 (.int .i64 id)) (Nat.zero_le _) (by decide) 12 (.slice none 0 0)) (((hX.out.set_ 8 (.int .i64 2)).set_ 9 (.int .i64 id)).set_ 12 (.slice none 0 0)) (Nat.zero_le _) (by decide) 10 (.int .i64 2))
  have q4 := ((((q2.setCell (p := ⟨w.heap.size, 8, none⟩) (Nat.le_refl _) (.int .i64 2)).setCell (p := ⟨w.heap.size, 9, none⟩) (Nat.le_refl _) (.int .i64 id)).setCell (p := ⟨w.heap.size, 12, none⟩) (Nat.le_refl _) (.slice none 0 0)).setCell (p := ⟨w.heap.size, 10, none⟩) (Nat.le_refl _) (.int .i64 2))
  obtain ⟨w4, hw4⟩ : ∃ x, ((((w2.setCell ⟨w.heap.size, 8, none⟩ (.int .i64 2)).setCell ⟨w.heap.size, 9, none⟩ (.int .i64 id)).setCell ⟨w.heap.size, 12, none⟩ (.slice none 0 0)).setCell ⟨w.heap.size, 10, none⟩ (.int .i64 2)) = x := ⟨_, rfl⟩
  rw [hw4] at hX4 hY4 hv4 q4 ⊢
  clear hw4 q2
  replace hX := hid_mk hX4
  replace hY := hid_mk hY4
  replace hvI := hid_mk hv4
  clear hX4 hY4 hv4
  refine wp_region_T' (fun w' => w'.cell? ⟨w.heap.size, 0, none⟩ = some (.int .i64 id) ∧ w'.cell? ⟨w.heap.size, 1, none⟩ = some (.int .i64 t) ∧ w'.cell? ⟨w.heap.size, 2, none⟩ = some (.int .i64 v) ∧ w'.cell? ⟨w.heap.size, 3, none⟩ = some (.int .i64 base) ∧ w'.cell? ⟨w.heap.size, 4, none⟩ = some (.int .i64 bt) ∧ w'.cell? ⟨w.heap.size, 5, none⟩ = some (.slice RA n Rc) ∧ w'.cell? ⟨w.heap.size, 6, none⟩ = some (.string s) ∧ w'.cell? ⟨w.heap.size, 7, none⟩ = some (.slice VA m Vc) ∧ w'.cell? ⟨w.heap.size, 8, none⟩ = some (.int .i64 2) ∧ w'.cell? ⟨w.heap.size, 9, none⟩ = some (.int .i64 id) ∧ w'.cell? ⟨w.heap.size, 10, none⟩ = some (.int .i64 2) ∧ w'.cell? ⟨w.heap.size, 11, none⟩ = some (.int .i64 commit) ∧ w'.cell? ⟨w.heap.size, 12, none⟩ = some (.slice none 0 0) ∧ w'.cell? ⟨w.heap.size, 13, none⟩ = some (.slice PA pn Pc)) (fun j => decide (j < 8)) 9 (by kernel_rfl) (by kernel_rfl) (by exact ⟨hX.out.cell 0, hX.out.cell 1, hX.out.cell 2, hX.out.cell 3, hX.out.cell 4, hX.out.cell 5, hX.out.cell 6, hX.out.cell 7, hX.out.cell 8, hX.out.cell 9, hX.out.cell 10, hX.out.cell 11, hX.out.cell 12, hX.out.cell 13⟩) (fun hS0 => ?_)
  replace hX := hid_mk hX.out.drew
  replace hY := hid_mk hY.out.drew
  replace hvI := hid_mk (hvI.out.to (show Below w4.heap.size w4 w4.drew by go_grown))
  have qd : Below w.heap.size w w4.drew := by go_grown
  obtain ⟨wd, hwd⟩ : ∃ x, w4.drew = x := ⟨_, rfl⟩
  rw [hwd] at hS0 hX hY hvI qd ⊢
  clear hwd q4
  refine wpAnyT_take (i := 0) rfl (by kernel_rfl) (by kernel_rfl) (by kernel_rfl) rfl (by kernel_rfl) (fun _ _ _ h => h) (by kernel_rfl) (fun w' hS => (by obtain ⟨s0, s1, s2, s3, s4, s5, s6, s7, s8, s9, s10, s11, s12, s13⟩ := hS; go_simp; try with_reducible rfl)) hS0 ?_
  simp only [Act.put]
  refine wpAnyT_take (i := 1) rfl (by kernel_rfl) (by kernel_rfl) (by kernel_rfl) rfl (by kernel_rfl) (fun _ _ _ h => h) (by kernel_rfl) (fun w' hS => (by obtain ⟨s0, s1, s2, s3, s4, s5, s6, s7, s8, s9, s10, s11, s12, s13⟩ := hS; go_simp; try with_reducible rfl)) hS0 ?_
  simp only [Act.put]
  refine wpAnyT_take (i := 2) rfl (by kernel_rfl) (by kernel_rfl) (by kernel_rfl) rfl (by kernel_rfl) (fun _ _ _ h => h) (by kernel_rfl) (fun w' hS => (by obtain ⟨s0, s1, s2, s3, s4, s5, s6, s7, s8, s9, s10, s11, s12, s13⟩ := hS; go_simp; try with_reducible rfl)) hS0 ?_
  simp only [Act.put]
  refine wpAnyT_take (i := 3) rfl (by kernel_rfl) (by kernel_rfl) (by kernel_rfl) rfl (by kernel_rfl) (fun _ _ _ h => h) (by kernel_rfl) (fun w' hS => (by obtain ⟨s0, s1, s2, s3, s4, s5, s6, s7, s8, s9, s10, s11, s12, s13⟩ := hS; go_simp; try with_reducible rfl)) hS0 ?_
  simp only [Act.put]
  refine wpAnyT_one (i := 4) (by kernel_rfl) rfl (fun K hK => ?_)
  go_simp
  refine (hEL _ (hN4.out _ qd) hj.out).mono ?_
  rintro e w5 ⟨rfl, hb1⟩
  have q5 := (after (w := w) hb1 qd).1
  replace hX := hid_mk (hX.out.keep hb1)
  replace hY := hid_mk (hY.out.keep hb1)
  replace hvI := hid_mk (hvI.out.to hb1)
  have hw64 : IntKind.i64.wrap (la + 1) = la + 1 := IntWalk.i64_in _ (by omega)
  clear hb1 qd
  refine hK.out _ _ (fun _ => ⟨hX.out.cell 0, hX.out.cell 1, hX.out.cell 2, hX.out.cell 3, hX.out.cell 4, hX.out.cell 5, hX.out.cell 6, hX.out.cell 7, hX.out.cell 8, hX.out.cell 9, hX.out.cell 10, hX.out.cell 11, hX.out.cell 12, hX.out.cell 13⟩) ?_
  clear hK K
  try simp only [Act.put]
  refine wpAnyT_take (i := 5) rfl (by kernel_rfl) (by kernel_rfl) (by kernel_rfl) rfl (by kernel_rfl) (fun _ _ _ h => h) (by kernel_rfl) (fun w' hS => (by obtain ⟨s0, s1, s2, s3, s4, s5, s6, s7, s8, s9, s10, s11, s12, s13⟩ := hS; go_simp; try with_reducible rfl)) ⟨hX.out.cell 0, hX.out.cell 1, hX.out.cell 2, hX.out.cell 3, hX.out.cell 4, hX.out.cell 5, hX.out.cell 6, hX.out.cell 7, hX.out.cell 8, hX.out.cell 9, hX.out.cell 10, hX.out.cell 11, hX.out.cell 12, hX.out.cell 13⟩ ?_
  simp only [Act.put]
  refine wpAnyT_one (i := 6) (by kernel_rfl) rfl (fun K hK => ?_)
  go_simp
  refine (EPeers_any vo id (la + 1) [] VA2 vn vc none 0 0 _ (B := 0) hvI.out Reads.none_ hv7 (Nat.zero_le _) (asc_none (by have h := hvr.out; unfold rightL at h; simp only [Bool.and_eq_true] at h; exact h.1)).1 (right_digits hvr.out) List.Pairwise.nil (fun _ h => by cases h)).mono ?_
  rw [hPS.out]
  rintro e w6 ⟨QA, qn, Qc, rfl, hQ6, hqc, hb1⟩
  have hq9 := hid_mk hQ6.len
  have q6 := (after (w := w) hb1 q5).1
  replace hX := hid_mk (hX.out.keep hb1)
  replace hY := hid_mk (hY.out.keep hb1)
  replace hQ6 := hid_mk hQ6
  clear hb1 q5 hvI
  refine hK.out _ _ (fun _ => ⟨hX.out.cell 0, hX.out.cell 1, hX.out.cell 2, hX.out.cell 3, hX.out.cell 4, hX.out.cell 5, hX.out.cell 6, hX.out.cell 7, hX.out.cell 8, hX.out.cell 9, hX.out.cell 10, hX.out.cell 11, hX.out.cell 12, hX.out.cell 13⟩) ?_
  clear hK K
  try simp only [Act.put]
  refine wpAnyT_one (i := 7) (by kernel_rfl) rfl (fun K hK => ?_)
  go_simp
  refine hK.out _ _ (fun _ => ⟨hX.out.cell 0, hX.out.cell 1, hX.out.cell 2, hX.out.cell 3, hX.out.cell 4, hX.out.cell 5, hX.out.cell 6, hX.out.cell 7, hX.out.cell 8, hX.out.cell 9, hX.out.cell 10, hX.out.cell 11, hX.out.cell 12, hX.out.cell 13⟩) ?_
  clear hK K
  try simp only [Act.put]
  have x13 := hX.out.cell 13
  change _ = some (Value.slice PA pn Pc) at x13
  have xf13 := hX.out.frozen 13
  have xl13 := hX.out.lt
  refine wpAnyT_one (i := 8) (by kernel_rfl) rfl (fun K hK => ?_)
  go_simp
  refine hK.out _ _ (fun h => absurd h (by decide)) ?_
  clear hK K
  try simp only [Act.put]
  refine wpAnyT_done (by kernel_rfl) ?_ _
  clear x13 xf13 xl13
  have hXn : Blk (w6.setCell ⟨w.heap.size, 13, none⟩ (.slice QA qn Qc)) (w.heap.size) 30 #[.int .i64 id, .int .i64 t, .int .i64 v, .int .i64 base, .int .i64 bt, .slice RA n Rc, .string s, .slice VA m Vc, .int .i64 2, .int .i64 id, .int .i64 2, .int .i64 commit, .slice none 0 0, .slice QA qn Qc] := hX.out.set_ 13 _
  have hYn := hY.out.far (p := ⟨w.heap.size, 13, none⟩) (by dsimp only; omega) (.slice QA qn Qc)
  have hQn : Prs (w6.setCell ⟨w.heap.size, 13, none⟩ (.slice QA qn Qc)) 0 QA qn PS := Reads.far hQ6.out hX.out (Nat.zero_le _) (by decide) 13 _
  have q7 := q6.setCell (p := ⟨w.heap.size, 13, none⟩) (Nat.le_refl _) (.slice QA qn Qc)
  obtain ⟨w7, hw7⟩ : ∃ x, (w6.setCell ⟨w.heap.size, 13, none⟩ (.slice QA qn Qc)) = x := ⟨_, rfl⟩
  rw [hw7] at hXn hYn hQn q7 ⊢
  clear hw7 hX hY hQ6 q6
  have hX := hid_mk hXn
  have hY := hid_mk hYn
  have hqn : qn ≤ 9 := by
    rw [← hq9.out, ← hPS.out]
    have h := right_len hvr.out
    unfold peersF
    rw [List.length_map]
    exact Nat.le_trans (List.length_filter_le _ _) (by omega)
  have hok7 : Hid (NdOk w7 B NB0 ⟨⟨RA, n, Rc⟩, ⟨VA, m, Vc⟩, ⟨none, 0, 0⟩, ⟨QA, qn, Qc⟩⟩) := by
    rw [hNBe.out]
    exact ⟨hN0.recs.to q7, hN0.rc, hN0.rb, hN0.vs.to q7, hN0.vc, hN0.vb, hN0.sb, Reads.none_, Nat.le_refl _, by dsimp only; omega, hQn.more (Nat.zero_le _), hqc, by dsimp only; omega⟩
  clear hXn hYn hQn
  have hEW7 := fun (w : World) (h0 : B ≤ w.heap.size) (k : NdOk w B NB0 ⟨⟨RA, n, Rc⟩, ⟨VA, m, Vc⟩, ⟨none, 0, 0⟩, ⟨QA, qn, Qc⟩⟩) (ht : Tab w) => hEW ⟨⟨RA, n, Rc⟩, ⟨VA, m, Vc⟩, ⟨none, 0, 0⟩, ⟨QA, qn, Qc⟩⟩ w h0 k hj.out ht
  rw [hNBe.out] at hEW7
  unfold nodeV recVal at hEW7
  dsimp only at hEW7
  rw [← hNBe.out] at hEW7
  have z7 := q7.size
  clear hEW
  obtain ⟨xl, x0, x1, x2, x3, x4, x5, x6, x7, x8, x9, x10, x11, x12, x13, xf0, xf1, xf2, xf3, xf4, xf5, xf6, xf7, xf8, xf9, xf10, xf11, xf12, xf13⟩ := blk14f hX.out
  go_wp2_with fail
  clear xl x0 x1 x2 x3 x4 x5 x6 x7 x8 x9 x10 x11 x12 x13 xf0 xf1 xf2 xf3 xf4 xf5 xf6 xf7 xf8 xf9 xf10 xf11 xf12 xf13
  refine (hEW7 _ (by omega) hok7.out (ht.to q7)).mono ?_
  rintro e w8 ⟨a8, rfl, hok8, hb1⟩
  unfold nodeV
  have q8 := (after (w := w) hb1 q7).1
  replace hX := hid_mk (hX.out.keep hb1)
  replace hY := hid_mk (hY.out.keep hb1)
  have hok7' := hid_mk (hok7.out.to hb1)
  replace hok8 := hid_mk hok8
  clear hb1 q7 z7 hEW7 hok7
  have q8' := q8
  have z8 := q8.size
  replace hX := hid_mk (hX.out.alloc (.cells #[.int .i64 NW.id, .int .i64 NW.h.t, .int .i64 NW.h.v, .int .i64 NW.h.l.base, .int .i64 NW.h.l.bt, .slice a8.R.A a8.R.n a8.R.c, .string NW.h.s, .slice a8.V.A a8.V.n a8.V.c, .int .i64 NW.role, .int .i64 NW.lead, .int .i64 NW.timer, .int .i64 NW.commit, .slice a8.G.A a8.G.n a8.G.c, .slice a8.P.A a8.P.n a8.P.c] 30))
  replace hY := hid_mk (hY.out.alloc (.cells #[.int .i64 NW.id, .int .i64 NW.h.t, .int .i64 NW.h.v, .int .i64 NW.h.l.base, .int .i64 NW.h.l.bt, .slice a8.R.A a8.R.n a8.R.c, .string NW.h.s, .slice a8.V.A a8.V.n a8.V.c, .int .i64 NW.role, .int .i64 NW.lead, .int .i64 NW.timer, .int .i64 NW.commit, .slice a8.G.A a8.G.n a8.G.c, .slice a8.P.A a8.P.n a8.P.c] 30))
  obtain ⟨gM, hgM⟩ : ∃ g, w8.heap.size = g := ⟨_, rfl⟩
  have hM : Hid (Blk (w8.alloc (.cells #[.int .i64 NW.id, .int .i64 NW.h.t, .int .i64 NW.h.v, .int .i64 NW.h.l.base, .int .i64 NW.h.l.bt, .slice a8.R.A a8.R.n a8.R.c, .string NW.h.s, .slice a8.V.A a8.V.n a8.V.c, .int .i64 NW.role, .int .i64 NW.lead, .int .i64 NW.timer, .int .i64 NW.commit, .slice a8.G.A a8.G.n a8.G.c, .slice a8.P.A a8.P.n a8.P.c] 30)) gM 30 #[.int .i64 NW.id, .int .i64 NW.h.t, .int .i64 NW.h.v, .int .i64 NW.h.l.base, .int .i64 NW.h.l.bt, .slice a8.R.A a8.R.n a8.R.c, .string NW.h.s, .slice a8.V.A a8.V.n a8.V.c, .int .i64 NW.role, .int .i64 NW.lead, .int .i64 NW.timer, .int .i64 NW.commit, .slice a8.G.A a8.G.n a8.G.c, .slice a8.P.A a8.P.n a8.P.c]) := by rw [← hgM]; exact Blk.new _ _ _
  have hok7 : Hid (NdOk (w8.alloc (.cells #[.int .i64 NW.id, .int .i64 NW.h.t, .int .i64 NW.h.v, .int .i64 NW.h.l.base, .int .i64 NW.h.l.bt, .slice a8.R.A a8.R.n a8.R.c, .string NW.h.s, .slice a8.V.A a8.V.n a8.V.c, .int .i64 NW.role, .int .i64 NW.lead, .int .i64 NW.timer, .int .i64 NW.commit, .slice a8.G.A a8.G.n a8.G.c, .slice a8.P.A a8.P.n a8.P.c] 30)) B NB0 ⟨⟨RA, n, Rc⟩, ⟨VA, m, Vc⟩, ⟨none, 0, 0⟩, ⟨QA, qn, Qc⟩⟩) := hok7'.out.to (by go_grown)
  replace hok8 : Hid (NdOk (w8.alloc (.cells #[.int .i64 NW.id, .int .i64 NW.h.t, .int .i64 NW.h.v, .int .i64 NW.h.l.base, .int .i64 NW.h.l.bt, .slice a8.R.A a8.R.n a8.R.c, .string NW.h.s, .slice a8.V.A a8.V.n a8.V.c, .int .i64 NW.role, .int .i64 NW.lead, .int .i64 NW.timer, .int .i64 NW.commit, .slice a8.G.A a8.G.n a8.G.c, .slice a8.P.A a8.P.n a8.P.c] 30)) B NW a8) := hok8.out.to (by go_grown)
  have q9 : Below w.heap.size w (w8.alloc (.cells #[.int .i64 NW.id, .int .i64 NW.h.t, .int .i64 NW.h.v, .int .i64 NW.h.l.base, .int .i64 NW.h.l.bt, .slice a8.R.A a8.R.n a8.R.c, .string NW.h.s, .slice a8.V.A a8.V.n a8.V.c, .int .i64 NW.role, .int .i64 NW.lead, .int .i64 NW.timer, .int .i64 NW.commit, .slice a8.G.A a8.G.n a8.G.c, .slice a8.P.A a8.P.n a8.P.c] 30)) := by go_grown
  obtain ⟨w9, hw9⟩ : ∃ x, (w8.alloc (.cells #[.int .i64 NW.id, .int .i64 NW.h.t, .int .i64 NW.h.v, .int .i64 NW.h.l.base, .int .i64 NW.h.l.bt, .slice a8.R.A a8.R.n a8.R.c, .string NW.h.s, .slice a8.V.A a8.V.n a8.V.c, .int .i64 NW.role, .int .i64 NW.lead, .int .i64 NW.timer, .int .i64 NW.commit, .slice a8.G.A a8.G.n a8.G.c, .slice a8.P.A a8.P.n a8.P.c] 30)) = x := ⟨_, rfl⟩
  rw [hw9] at hX hY hM hok7 hok8 q9
  replace hw9 := hid_mk hw9
  replace hgM := hid_mk hgM
  clear hok7' q8' q8
  go_upto_region 7 with fail
  rw [hw9.out, hgM.out]
  clear hw9 hgM z8
  have z9 := q9.size
  cases zh
  case false =>
    have hw := hid_mk (hWf.out (by first | rfl | trivial))
    go_upto_region 9 with fail
    obtain ⟨a9, hX9, hok9⟩ : ∃ a9 : NdA, Hid (Blk w9 (w.heap.size) 30 #[.int .i64 W2.id, .int .i64 W2.h.t, .int .i64 W2.h.v, .int .i64 W2.h.l.base, .int .i64 W2.h.l.bt, .slice a9.R.A a9.R.n a9.R.c, .string W2.h.s, .slice a9.V.A a9.V.n a9.V.c, .int .i64 W2.role, .int .i64 W2.lead, .int .i64 W2.timer, .int .i64 W2.commit, .slice a9.G.A a9.G.n a9.G.c, .slice a9.P.A a9.P.n a9.P.c]) ∧ Hid (NdOk w9 B W2 a9) := ⟨⟨⟨RA, n, Rc⟩, ⟨VA, m, Vc⟩, ⟨none, 0, 0⟩, ⟨QA, qn, Qc⟩⟩, by rw [hw.out, hNBe.out]; exact hX, by rw [hw.out]; exact hok7⟩
    obtain ⟨wc, hwc⟩ : ∃ x, x = w9 := ⟨w9, rfl⟩
    subst hwc
    have qc := q9
    clear hok7 hok8 hM q9 z9
    try clear hX
    have hX := hX9
    clear hX9
    obtain ⟨NS, hNS⟩ : ∃ x, sureN W2 = x := ⟨_, rfl⟩
    have hES := fun (w : World) (k : NdOk w B W2 a9) (hm : w.cell? ⟨0, 0, none⟩ = some (.int .i64 mm)) => ESure_any W2 a9 w k hy3.out mm hm
    have hrs := hid_mk (sure_right hy3.out)
    have hokS : Hid (NdOk wc B NS a9) := by
      rw [← hNS]
      have e := sure_same W2
      have h := hok9.out
      exact ⟨by rw [e.2.1]; exact h.recs, h.rc, h.rb, by rw [e.2.1]; exact h.vs, h.vc, h.vb, by rw [e.2.1]; exact h.sb, by rw [e.2.2.2.2.2.1]; exact h.got, h.gc, h.gb, by rw [e.2.2.2.2.2.2.1]; exact h.ps, h.pc, h.pb⟩
    rw [hNS] at hES hrs hy1 hy2
    replace hNS := hid_mk hNS
    unfold nodeV at hES
    have hSA := fun (w : World) (h0 : B ≤ w.heap.size) (k : NdOk w B NS a9) => ESendAll_any NS a9 w h0 k hrs.out
    unfold nodeV at hSA
    obtain ⟨LS, hLS⟩ : ∃ x, allM NS = x := ⟨_, rfl⟩
    rw [hLS] at hSA hy2
    replace hLS := hid_mk hLS
    obtain ⟨xl, x0, x1, x2, x3, x4, x5, x6, x7, x8, x9, x10, x11, x12, x13, xf0, xf1, xf2, xf3, xf4, xf5, xf6, xf7, xf8, xf9, xf10, xf11, xf12, xf13⟩ := blk14f hX.out
    go_wp2_with fail
    clear xl x0 x1 x2 x3 x4 x5 x6 x7 x8 x9 x10 x11 x12 x13 xf0 xf1 xf2 xf3 xf4 xf5 xf6 xf7 xf8 xf9 xf10 xf11 xf12 xf13
    refine (hES _ hok9.out (hm2.out _ qc)).mono ?_
    rintro e w10 ⟨rfl, hb1⟩
    have q10 := (after (w := w) hb1 qc).1
    replace hX := hid_mk (hX.out.keep hb1)
    replace hY := hid_mk (hY.out.keep hb1)
    replace hokS := hid_mk (hokS.out.to hb1)
    clear hb1 qc hES hok9
    obtain ⟨xl, x0, x1, x2, x3, x4, x5, x6, x7, x8, x9, x10, x11, x12, x13, xf0, xf1, xf2, xf3, xf4, xf5, xf6, xf7, xf8, xf9, xf10, xf11, xf12, xf13⟩ := blk14f hX.out
    go_upto_region 10 with fail
    clear xl x0 x1 x2 x3 x4 x5 x6 x7 x8 x9 x10 x11 x12 x13 xf0 xf1 xf2 xf3 xf4 xf5 xf6 xf7 xf8 xf9 xf10 xf11 xf12 xf13
    have hXn := set14_blk hX.out (.int .i64 NS.id) (.int .i64 NS.h.t) (.int .i64 NS.h.v) (.int .i64 NS.h.l.base) (.int .i64 NS.h.l.bt) (.slice a9.R.A a9.R.n a9.R.c) (.string NS.h.s) (.slice a9.V.A a9.V.n a9.V.c) (.int .i64 NS.role) (.int .i64 NS.lead) (.int .i64 NS.timer) (.int .i64 NS.commit) (.slice a9.G.A a9.G.n a9.G.c) (.slice a9.P.A a9.P.n a9.P.c)
    have hYn := set14_farS hY.out (by omega : w.heap.size + 1 ≠ w.heap.size) (.int .i64 NS.id) (.int .i64 NS.h.t) (.int .i64 NS.h.v) (.int .i64 NS.h.l.base) (.int .i64 NS.h.l.bt) (.slice a9.R.A a9.R.n a9.R.c) (.string NS.h.s) (.slice a9.V.A a9.V.n a9.V.c) (.int .i64 NS.role) (.int .i64 NS.lead) (.int .i64 NS.timer) (.int .i64 NS.commit) (.slice a9.G.A a9.G.n a9.G.c) (.slice a9.P.A a9.P.n a9.P.c)
    have q11 := set14_below (.int .i64 NS.id) (.int .i64 NS.h.t) (.int .i64 NS.h.v) (.int .i64 NS.h.l.base) (.int .i64 NS.h.l.bt) (.slice a9.R.A a9.R.n a9.R.c) (.string NS.h.s) (.slice a9.V.A a9.V.n a9.V.c) (.int .i64 NS.role) (.int .i64 NS.lead) (.int .i64 NS.timer) (.int .i64 NS.commit) (.slice a9.G.A a9.G.n a9.G.c) (.slice a9.P.A a9.P.n a9.P.c) q10 (Nat.le_refl _)
    have hokn := nd_st14 hokS.out hX.out hBw (.int .i64 NS.id) (.int .i64 NS.h.t) (.int .i64 NS.h.v) (.int .i64 NS.h.l.base) (.int .i64 NS.h.l.bt) (.slice a9.R.A a9.R.n a9.R.c) (.string NS.h.s) (.slice a9.V.A a9.V.n a9.V.c) (.int .i64 NS.role) (.int .i64 NS.lead) (.int .i64 NS.timer) (.int .i64 NS.commit) (.slice a9.G.A a9.G.n a9.G.c) (.slice a9.P.A a9.P.n a9.P.c)
    obtain ⟨w11, hw11⟩ : ∃ x, set14 w10 w.heap.size (.int .i64 NS.id) (.int .i64 NS.h.t) (.int .i64 NS.h.v) (.int .i64 NS.h.l.base) (.int .i64 NS.h.l.bt) (.slice a9.R.A a9.R.n a9.R.c) (.string NS.h.s) (.slice a9.V.A a9.V.n a9.V.c) (.int .i64 NS.role) (.int .i64 NS.lead) (.int .i64 NS.timer) (.int .i64 NS.commit) (.slice a9.G.A a9.G.n a9.G.c) (.slice a9.P.A a9.P.n a9.P.c) = x := ⟨_, rfl⟩
    rw [hw11] at hXn hYn q11 hokn
    unfold set14 at hw11
    rw [hw11]
    clear hw11 hX hY hokS q10
    have hX := hid_mk hXn
    have hY := hid_mk hYn
    have hokS := hid_mk hokn
    clear hXn hYn hokn
    refine wp_region_T' (fun w' => w'.cell? ⟨w.heap.size, 0, none⟩ = some (.int .i64 NS.id) ∧ w'.cell? ⟨w.heap.size, 1, none⟩ = some (.int .i64 NS.h.t) ∧ w'.cell? ⟨w.heap.size, 2, none⟩ = some (.int .i64 NS.h.v) ∧ w'.cell? ⟨w.heap.size, 3, none⟩ = some (.int .i64 NS.h.l.base) ∧ w'.cell? ⟨w.heap.size, 4, none⟩ = some (.int .i64 NS.h.l.bt) ∧ w'.cell? ⟨w.heap.size, 5, none⟩ = some (.slice a9.R.A a9.R.n a9.R.c) ∧ w'.cell? ⟨w.heap.size, 6, none⟩ = some (.string NS.h.s) ∧ w'.cell? ⟨w.heap.size, 7, none⟩ = some (.slice a9.V.A a9.V.n a9.V.c) ∧ w'.cell? ⟨w.heap.size, 8, none⟩ = some (.int .i64 NS.role) ∧ w'.cell? ⟨w.heap.size, 9, none⟩ = some (.int .i64 NS.lead) ∧ w'.cell? ⟨w.heap.size, 10, none⟩ = some (.int .i64 NS.timer) ∧ w'.cell? ⟨w.heap.size, 11, none⟩ = some (.int .i64 NS.commit) ∧ w'.cell? ⟨w.heap.size, 12, none⟩ = some (.slice a9.G.A a9.G.n a9.G.c) ∧ w'.cell? ⟨w.heap.size, 13, none⟩ = some (.slice a9.P.A a9.P.n a9.P.c)) (fun j => decide (j < 5)) 5 (by kernel_rfl) (by kernel_rfl) (by exact ⟨hX.out.cell 0, hX.out.cell 1, hX.out.cell 2, hX.out.cell 3, hX.out.cell 4, hX.out.cell 5, hX.out.cell 6, hX.out.cell 7, hX.out.cell 8, hX.out.cell 9, hX.out.cell 10, hX.out.cell 11, hX.out.cell 12, hX.out.cell 13⟩) (fun hS0 => ?_)
    replace hX := hid_mk hX.out.drew
    replace hY := hid_mk hY.out.drew
    replace hokS := hid_mk (hokS.out.to (show Below w11.heap.size w11 w11.drew by go_grown))
    have qd : Below w.heap.size w w11.drew := by go_grown
    obtain ⟨wd, hwd⟩ : ∃ x, w11.drew = x := ⟨_, rfl⟩
    rw [hwd] at hS0 hX hY hokS qd ⊢
    clear hwd q11
    have zd := qd.size
    refine wpAnyT_take (i := 0) rfl (by kernel_rfl) (by kernel_rfl) (by kernel_rfl) rfl (by kernel_rfl) (fun _ _ _ h => h) (by kernel_rfl) (fun w' hS => (by obtain ⟨s0, s1, s2, s3, s4, s5, s6, s7, s8, s9, s10, s11, s12, s13⟩ := hS; go_simp; try with_reducible rfl)) hS0 ?_
    simp only [Act.put]
    refine wpAnyT_take (i := 1) rfl (by kernel_rfl) (by kernel_rfl) (by kernel_rfl) rfl (by kernel_rfl) (fun _ _ _ h => h) (by kernel_rfl) (fun w' hS => (by obtain ⟨s0, s1, s2, s3, s4, s5, s6, s7, s8, s9, s10, s11, s12, s13⟩ := hS; go_simp; try with_reducible rfl)) hS0 ?_
    simp only [Act.put]
    refine wpAnyT_one (i := 2) (by kernel_rfl) rfl (fun K hK => ?_)
    go_simp
    refine (hSA _ (by omega) hokS.out).mono ?_
    rintro e w12 ⟨LA, ln, lc, pm, rfl, hMg, hpm, hlc, hb1⟩
    have q12 := (after (w := w) hb1 qd).1
    replace hX := hid_mk (hX.out.keep hb1)
    replace hY := hid_mk (hY.out.keep hb1)
    replace hokS := hid_mk (hokS.out.to hb1)
    replace hMg := hid_mk hMg
    replace hpm := hid_mk hpm
    clear hb1 qd
    refine hK.out _ _ (fun _ => ⟨hX.out.cell 0, hX.out.cell 1, hX.out.cell 2, hX.out.cell 3, hX.out.cell 4, hX.out.cell 5, hX.out.cell 6, hX.out.cell 7, hX.out.cell 8, hX.out.cell 9, hX.out.cell 10, hX.out.cell 11, hX.out.cell 12, hX.out.cell 13⟩) ?_
    clear hK K
    try simp only [Act.put]
    obtain ⟨yl, y0, y1, y2, y3, y4, y5, y6, y7, y8, y9, y10, y11, y12, y13, yf0, yf1, yf2, yf3, yf4, yf5, yf6, yf7, yf8, yf9, yf10, yf11, yf12, yf13⟩ := blk14f hY.out
    refine wpAnyT_one (i := 3) (by kernel_rfl) rfl (fun K hK => ?_)
    go_simp
    clear yl y0 y1 y2 y3 y4 y5 y6 y7 y8 y9 y10 y11 y12 y13 yf0 yf1 yf2 yf3 yf4 yf5 yf6 yf7 yf8 yf9 yf10 yf11 yf12 yf13
    have hMz := mgs_st14 hMg.out hY.out (by omega) (.int .i64 NS.id) (.int .i64 NS.h.t) (.int .i64 NS.h.v) (.int .i64 NS.h.l.base) (.int .i64 NS.h.l.bt) (.slice a9.R.A a9.R.n a9.R.c) (.string NS.h.s) (.slice a9.V.A a9.V.n a9.V.c) (.int .i64 NS.role) (.int .i64 NS.lead) (.int .i64 NS.timer) (.int .i64 NS.commit) (.slice a9.G.A a9.G.n a9.G.c) (.slice a9.P.A a9.P.n a9.P.c)
    have hokz := nd_st14 hokS.out hY.out (by omega) (.int .i64 NS.id) (.int .i64 NS.h.t) (.int .i64 NS.h.v) (.int .i64 NS.h.l.base) (.int .i64 NS.h.l.bt) (.slice a9.R.A a9.R.n a9.R.c) (.string NS.h.s) (.slice a9.V.A a9.V.n a9.V.c) (.int .i64 NS.role) (.int .i64 NS.lead) (.int .i64 NS.timer) (.int .i64 NS.commit) (.slice a9.G.A a9.G.n a9.G.c) (.slice a9.P.A a9.P.n a9.P.c)
    replace hX := hid_mk (set14_farS hX.out (by omega : w.heap.size ≠ w.heap.size + 1) (.int .i64 NS.id) (.int .i64 NS.h.t) (.int .i64 NS.h.v) (.int .i64 NS.h.l.base) (.int .i64 NS.h.l.bt) (.slice a9.R.A a9.R.n a9.R.c) (.string NS.h.s) (.slice a9.V.A a9.V.n a9.V.c) (.int .i64 NS.role) (.int .i64 NS.lead) (.int .i64 NS.timer) (.int .i64 NS.commit) (.slice a9.G.A a9.G.n a9.G.c) (.slice a9.P.A a9.P.n a9.P.c))
    have qz := set14_below (.int .i64 NS.id) (.int .i64 NS.h.t) (.int .i64 NS.h.v) (.int .i64 NS.h.l.base) (.int .i64 NS.h.l.bt) (.slice a9.R.A a9.R.n a9.R.c) (.string NS.h.s) (.slice a9.V.A a9.V.n a9.V.c) (.int .i64 NS.role) (.int .i64 NS.lead) (.int .i64 NS.timer) (.int .i64 NS.commit) (.slice a9.G.A a9.G.n a9.G.c) (.slice a9.P.A a9.P.n a9.P.c) q12 (by omega : w.heap.size ≤ w.heap.size + 1)
    replace hY := hid_mk (set14_blk hY.out (.int .i64 NS.id) (.int .i64 NS.h.t) (.int .i64 NS.h.v) (.int .i64 NS.h.l.base) (.int .i64 NS.h.l.bt) (.slice a9.R.A a9.R.n a9.R.c) (.string NS.h.s) (.slice a9.V.A a9.V.n a9.V.c) (.int .i64 NS.role) (.int .i64 NS.lead) (.int .i64 NS.timer) (.int .i64 NS.commit) (.slice a9.G.A a9.G.n a9.G.c) (.slice a9.P.A a9.P.n a9.P.c))
    obtain ⟨wz, hwz⟩ : ∃ x, set14 w12 (w.heap.size + 1) (.int .i64 NS.id) (.int .i64 NS.h.t) (.int .i64 NS.h.v) (.int .i64 NS.h.l.base) (.int .i64 NS.h.l.bt) (.slice a9.R.A a9.R.n a9.R.c) (.string NS.h.s) (.slice a9.V.A a9.V.n a9.V.c) (.int .i64 NS.role) (.int .i64 NS.lead) (.int .i64 NS.timer) (.int .i64 NS.commit) (.slice a9.G.A a9.G.n a9.G.c) (.slice a9.P.A a9.P.n a9.P.c) = x := ⟨_, rfl⟩
    rw [hwz] at hX hY hMz hokz qz
    unfold set14 at hwz
    rw [hwz]
    clear hwz
    refine hK.out _ _ (fun _ => ⟨hX.out.cell 0, hX.out.cell 1, hX.out.cell 2, hX.out.cell 3, hX.out.cell 4, hX.out.cell 5, hX.out.cell 6, hX.out.cell 7, hX.out.cell 8, hX.out.cell 9, hX.out.cell 10, hX.out.cell 11, hX.out.cell 12, hX.out.cell 13⟩) ?_
    clear hK K
    try simp only [Act.put]
    refine wpAnyT_one (i := 4) (by kernel_rfl) rfl (fun K hK => ?_)
    go_simp
    refine hK.out _ _ (fun _ => ⟨hX.out.cell 0, hX.out.cell 1, hX.out.cell 2, hX.out.cell 3, hX.out.cell 4, hX.out.cell 5, hX.out.cell 6, hX.out.cell 7, hX.out.cell 8, hX.out.cell 9, hX.out.cell 10, hX.out.cell 11, hX.out.cell 12, hX.out.cell 13⟩) ?_
    clear hK K
    try simp only [Act.put]
    refine wpAnyT_done (by kernel_rfl) ?_ _
    obtain ⟨_, y0, y1, y2, y3, y4, y5, y6, y7, y8, y9, y10, y11, y12, y13⟩ := blk14c hY.out
    go_wp2
    refine ends_ret hQ (v := .tuple #[.agg #[.int .i64 NS.id, .int .i64 NS.h.t, .int .i64 NS.h.v, .int .i64 NS.h.l.base, .int .i64 NS.h.l.bt, .slice a9.R.A a9.R.n a9.R.c, .string NS.h.s, .slice a9.V.A a9.V.n a9.V.c, .int .i64 NS.role, .int .i64 NS.lead, .int .i64 NS.timer, .int .i64 NS.commit, .slice a9.G.A a9.G.n a9.G.c, .slice a9.P.A a9.P.n a9.P.c], .slice LA ln lc]) (by simp [results, Tryz.results24, go_sem, y0, y1, y2, y3, y4, y5, y6, y7, y8, y9, y10, y11, y12, y13]) rfl ?_
    exact ⟨a9, LA, ln, lc, pm, by rw [hy1.out]; rfl, by rw [hy1.out]; exact hokz, hMz, by rw [hy2.out]; exact hpm.out, hlc, qz⟩
  case true =>
    exact absurd hB.out (by decide)
set_option maxRecDepth 100000 in
set_option maxHeartbeats 12800000 in
theorem ELead3_any (N : Nd) (a : NdA) (w : World) {B : Nat} (hBw : B ≤ w.heap.size) (hN : NdOk w B N a) (ht : Tab w) (mm : Int) (hm : w.cell? ⟨0, 0, none⟩ = some (.int .i64 mm)) (hA : rightN N = true ∧ N.role = 1) (hB : rightH (withH N.h ⟨N.h.t, 0, ⟨#[]⟩⟩) = true) :
    Calls Tryz.prog 24 #[nodeV N a] w (RetNMs w B (leadN N) (leadL N)) := by
  have hm2 : Hid (∀ w', Below w.heap.size w w' → w'.cell? ⟨0, 0, none⟩ = some (.int .i64 mm)) := fun w' hb => (hb.cell (p := ⟨0, 0, none⟩) (cell_lt hm)).trans hm
  clear hm
  obtain ⟨zr, hzr⟩ : ∃ z, rightN N = z := ⟨_, rfl⟩
  obtain ⟨vo, hvo⟩ : ∃ x, votersN N = x := ⟨_, rfl⟩
  obtain ⟨la, hla⟩ : ∃ x, lastJ N.h.l = x := ⟨_, rfl⟩
  obtain ⟨NL, hNL⟩ : ∃ x, leadN N = x := ⟨_, rfl⟩
  obtain ⟨LL, hLL⟩ : ∃ x, leadL N = x := ⟨_, rfl⟩
  obtain ⟨W2, hW2⟩ : ∃ x, leadW N = x := ⟨_, rfl⟩
  obtain ⟨zh, hzh⟩ : ∃ z, rightH (withH N.h ⟨N.h.t, 0, ⟨#[]⟩⟩) = z := ⟨_, rfl⟩
  obtain ⟨NB0, hNB0⟩ : ∃ x, leadB N = x := ⟨_, rfl⟩
  obtain ⟨NW, hNW⟩ : ∃ x, hdN (leadB N) (withH N.h ⟨N.h.t, 0, ⟨#[]⟩⟩) = x := ⟨_, rfl⟩
  rw [hzr] at hA
  rw [hzh] at hB
  have hno : Hid ((zr && N.role == 1) = false → NL = N ∧ LL = []) := fun e => by
    have hc : leadC N = false := by unfold leadC; rw [hzr]; exact e
    rw [← hNL, ← hLL]
    unfold leadN leadL
    rw [hc]
    exact ⟨rfl, rfl⟩
  have hyes : Hid ((zr && N.role == 1) = true → NL = sureN W2 ∧ LL = allM (sureN W2) ∧ rightN W2 = true) := fun e => by
    have hc : leadC N = true := by unfold leadC; rw [hzr]; exact e
    simp only [Bool.and_eq_true, beq_iff_eq] at e
    rw [← hNL, ← hLL, ← hW2]
    unfold leadN leadL
    rw [hc]
    exact ⟨rfl, rfl, (lead_right (by rw [hzr]; exact e.1) e.2).1⟩
  have hWt : Hid (zh = true → W2 = NW) := fun e => by
    rw [← hW2, ← hNW]
    unfold leadW
    rw [hzh, if_pos e]
  have hWf : Hid (zh = false → W2 = NB0) := fun e => by
    rw [← hW2, ← hNB0]
    unfold leadW
    rw [hzh, if_neg (by rw [e]; exact Bool.false_ne_true)]
  have hrt : Hid (zr = true → rightJ N.h.l = true ∧ rightL vo = true ∧ 0 ≤ la ∧ la ≤ 1073741824) := fun e => by
    have hr0 : rightN N = true := by rw [hzr]; exact e
    have hn := right_n hr0
    have hcb := commit_bounds hr0
    refine ⟨hn.1, by rw [← hvo]; exact of_right N.h.l.base N.h.l.rs hn.2.1, by omega, by omega⟩
  have hER := ERight_any N a
  rw [hzr] at hER
  have hEW := fun (a' : NdA) (w : World) (h0 : B ≤ w.heap.size) (k : NdOk w B NB0 a') (hj : rightJ N.h.l = true) (ht : Tab w) => EWith_any NB0 a' ⟨N.h.t, 0, ⟨#[]⟩⟩ w h0 k (by rw [← hNB0]; exact hj) ht
  have e1 : hdN NB0 (withH NB0.h ⟨N.h.t, 0, ⟨#[]⟩⟩) = NW := by rw [← hNW, ← hNB0]; rfl
  have e2 : rightH (withH NB0.h ⟨N.h.t, 0, ⟨#[]⟩⟩) = zh := by rw [← hzh, ← hNB0]; rfl
  rw [e1, e2] at hEW
  have hNBe : Hid (NB0 = ⟨N.id, N.h, 2, N.id, 2, N.commit, [], peersF vo N.id (la + 1) []⟩) := by
    rw [Hid, ← hNB0, ← hvo, ← hla]
    rfl
  have hEL := fun (w : World) (k : NdOk w B ⟨N.id, N.h, 2, N.id, 2, N.commit, [], N.ps⟩ ⟨a.R, a.V, ⟨none, 0, 0⟩, a.P⟩) (hj : rightJ N.h.l = true) => ELast_any ⟨N.id, N.h, 2, N.id, 2, N.commit, [], N.ps⟩ ⟨a.R, a.V, ⟨none, 0, 0⟩, a.P⟩ w k hj
  dsimp only at hEL
  rw [hla] at hEL
  rw [hNL, hLL]
  have hN4 : ∀ w', Below w.heap.size w w' → NdOk w' B ⟨N.id, N.h, 2, N.id, 2, N.commit, [], N.ps⟩ ⟨a.R, a.V, ⟨none, 0, 0⟩, a.P⟩ := fun w' q => by
    have h := hN.to q
    exact ⟨h.recs, h.rc, h.rb, h.vs, h.vc, h.vb, h.sb, Reads.none_, Nat.le_refl _, by dsimp only; omega, h.ps, h.pc, h.pb⟩
  obtain ⟨PS, hPS⟩ : ∃ x, peersF vo N.id (la + 1) [] = x := ⟨_, rfl⟩
  rw [hPS] at hNBe
  unfold votersN at hvo
  replace hN4 := hid_mk hN4
  replace hPS := hid_mk hPS
  clear hNL hLL hW2 hzh hNB0 hNW e1 e2 hzr hla
  have hN0 := hN
  obtain ⟨hr, hrc, hrb, hi, hvc, hvb, _, _, _, _, _, _, _⟩ := hN
  obtain ⟨id, ⟨t, v, ⟨base, bt, rs⟩, s, vs⟩, role, lead, timer, commit, got, ps⟩ := N
  obtain ⟨⟨RA, n, Rc⟩, ⟨VA, m, Vc⟩, ⟨GA, gn, Gc⟩, ⟨PA, pn, Pc⟩⟩ := a
  unfold nodeV at hER hEL
  dsimp only at hr hrc hrb hi hvc hvb hno hyes hrt hER hEW hNBe hEL hN4 hvo hPS hA hB
  replace hA := hid_mk hA
  replace hB := hid_mk hB
  replace hvo := hid_mk hvo
  have hX := hid_mk ((Blk.new w 30 #[.int .i64 id, .int .i64 t, .int .i64 v, .int .i64 base, .int .i64 bt, .slice RA n Rc, .string s, .slice VA m Vc, .int .i64 role, .int .i64 lead, .int .i64 timer, .int .i64 commit, .slice GA gn Gc, .slice PA pn Pc]).alloc (.cells #[.int .i64 0, .int .i64 0, .int .i64 0, .int .i64 0, .int .i64 0, .slice none 0 0, .string ⟨#[]⟩, .slice none 0 0, .int .i64 0, .int .i64 0, .int .i64 0, .int .i64 0, .slice none 0 0, .slice none 0 0] 30))
  have hY : Hid (Blk ((w.alloc (.cells #[.int .i64 id, .int .i64 t, .int .i64 v, .int .i64 base, .int .i64 bt, .slice RA n Rc, .string s, .slice VA m Vc, .int .i64 role, .int .i64 lead, .int .i64 timer, .int .i64 commit, .slice GA gn Gc, .slice PA pn Pc] 30)).alloc (.cells #[.int .i64 0, .int .i64 0, .int .i64 0, .int .i64 0, .int .i64 0, .slice none 0 0, .string ⟨#[]⟩, .slice none 0 0, .int .i64 0, .int .i64 0, .int .i64 0, .int .i64 0, .slice none 0 0, .slice none 0 0] 30)) (w.heap.size + 1) 30 #[.int .i64 0, .int .i64 0, .int .i64 0, .int .i64 0, .int .i64 0, .slice none 0 0, .string ⟨#[]⟩, .slice none 0 0, .int .i64 0, .int .i64 0, .int .i64 0, .int .i64 0, .slice none 0 0, .slice none 0 0]) := Blk.new_ (by simp)
  show Calls Tryz.prog 24 #[.agg #[.int .i64 id, .int .i64 t, .int .i64 v, .int .i64 base, .int .i64 bt, .slice RA n Rc, .string s, .slice VA m Vc, .int .i64 role, .int .i64 lead, .int .i64 timer, .int .i64 commit, .slice GA gn Gc, .slice PA pn Pc]] w _
  refine calls_of_wpQ Tryz.func24 rfl ?_
  intro Q hQ
  simp only [Tryz.ntmps24, List.size_toArray, List.length_cons, List.length_nil, Nat.reduceAdd, Nat.reduceSub, Array.replicate_succ, Array.replicate_zero, List.push_toArray, List.append_toArray, List.nil_append, List.cons_append]
  go_wp2_with fail
  refine (hER _ (B := B) (hN0.to (by go_grown)) (ht.to (by go_grown))).mono ?_
  rintro e w1 ⟨rfl, hb1⟩
  have q1 := (after (w := w) hb1 (by go_grown)).1
  replace hX := hid_mk (hX.out.keep (after hb1 (by go_grown)).1)
  replace hY := hid_mk (hY.out.keep (after hb1 (by go_grown)).1)
  clear hb1
  cases zr
  case false =>
    exact absurd hA.out.1 (by decide)
  by_cases g1 : role = 1
  case neg =>
    have g1' : (role != 1) = true := by simpa using g1
    have g1n := hid_mk (show (true && role == 1) = false by simpa using g1)
    replace g1 := hid_mk g1
    exact absurd hA.out.2 g1.out
  have g1' : (role != 1) = false := by simpa using g1
  obtain ⟨hy1, hy2, hy3⟩ := hyes.out (by simpa using g1)
  replace hy1 := hid_mk hy1
  replace hy2 := hid_mk hy2
  replace hy3 := hid_mk hy3
  obtain ⟨hj, hvr, hla0, hla1⟩ := hrt.out rfl
  replace hj := hid_mk hj
  replace hvr := hid_mk hvr
  replace g1 := hid_mk g1
  clear hno hyes hrt hER
  obtain ⟨xl, x0, x1, x2, x3, x4, x5, x6, x7, x8, x9, x10, x11, x12, x13, xf0, xf1, xf2, xf3, xf4, xf5, xf6, xf7, xf8, xf9, xf10, xf11, xf12, xf13⟩ := blk14f hX.out
  go_wp2_with fail
  clear xl x0 x1 x2 x3 x4 x5 x6 x7 x8 x9 x10 x11 x12 x13 xf0 xf1 xf2 xf3 xf4 xf5 xf6 xf7 xf8 xf9 xf10 xf11 xf12 xf13
  refine (Of_any t v ⟨base, bt, rs⟩ RA n Rc s VA m Vc vs _ B B mm (hm2.out _ q1) (by omega) (by omega) (hr.to q1) (hi.to q1)).mono ?_
  rintro e w2 ⟨VA2, vn, vc, rfl, hvI, hvn, hb1⟩
  dsimp only at hvI
  rw [hvo.out] at hvI
  have hv7 : vn ≤ 7 := by
    have h1 := hvI.len
    have h2 := (right_len hvr.out).2
    omega
  have q2 := (after (w := w) hb1 q1).1
  replace hX := hid_mk (hX.out.keep hb1)
  replace hY := hid_mk (hY.out.keep hb1)
  replace hvI := hid_mk hvI
  clear hb1 q1 hvo
  obtain ⟨xl, x0, x1, x2, x3, x4, x5, x6, x7, x8, x9, x10, x11, x12, x13, xf0, xf1, xf2, xf3, xf4, xf5, xf6, xf7, xf8, xf9, xf10, xf11, xf12, xf13⟩ := blk14f hX.out
  go_upto_region 5 with fail
  clear xl x0 x1 x2 x3 x4 x5 x6 x7 x8 x9 x10 x11 x12 x13 xf0 xf1 xf2 xf3 xf4 xf5 xf6 xf7 xf8 xf9 xf10 xf11 xf12 xf13
  have hX4 : Blk ((((w2.setCell ⟨w.heap.size, 8, none⟩ (.int .i64 2)).setCell ⟨w.heap.size, 9, none⟩ (.int .i64 id)).setCell ⟨w.heap.size, 12, none⟩ (.slice none 0 0)).setCell ⟨w.heap.size, 10, none⟩ (.int .i64 2)) (w.heap.size) 30 #[.int .i64 id, .int .i64 t, .int .i64 v, .int .i64 base, .int .i64 bt, .slice RA n Rc, .string s, .slice VA m Vc, .int .i64 2, .int .i64 id, .int .i64 2, .int .i64 commit, .slice none 0 0, .slice PA pn Pc] := ((((hX.out.set_ 8 (.int .i64 2)).set_ 9 (.int .i64 id)).set_ 12 (.slice none 0 0)).set_ 10 (.int .i64 2))
  have hY4 := ((((hY.out.far (p := ⟨w.heap.size, 8, none⟩) (by simp) (.int .i64 2)).far (p := ⟨w.heap.size, 9, none⟩) (by simp) (.int .i64 id)).far (p := ⟨w.heap.size, 12, none⟩) (by simp) (.slice none 0 0)).far (p := ⟨w.heap.size, 10, none⟩) (by simp) (.int .i64 2))
  have hv4 : Ints ((((w2.setCell ⟨w.heap.size, 8, none⟩ (.int .i64 2)).setCell ⟨w.heap.size, 9, none⟩ (.int .i64 id)).setCell ⟨w.heap.size, 12, none⟩ (.slice none 0 0)).setCell ⟨w.heap.size, 10, none⟩ (.int .i64 2)) 0 VA2 vn vo := (Reads.far (Reads.far (Reads.far (Reads.far hvI.out hX.out (Nat.zero_le _) (by decide) 8 (.int .i64 2)) (hX.out.set_ 8 (.int .i64 2)) (Nat.zero_le _) (by decide) 9 (.int .i64 id)) ((hX.out.set_ 8 (.int .i64 2)).set_ 9 (.int .i64 id)) (Nat.zero_le _) (by decide) 12 (.slice none 0 0)) (((hX.out.set_ 8 (.int .i64 2)).set_ 9 (.int .i64 id)).set_ 12 (.slice none 0 0)) (Nat.zero_le _) (by decide) 10 (.int .i64 2))
  have q4 := ((((q2.setCell (p := ⟨w.heap.size, 8, none⟩) (Nat.le_refl _) (.int .i64 2)).setCell (p := ⟨w.heap.size, 9, none⟩) (Nat.le_refl _) (.int .i64 id)).setCell (p := ⟨w.heap.size, 12, none⟩) (Nat.le_refl _) (.slice none 0 0)).setCell (p := ⟨w.heap.size, 10, none⟩) (Nat.le_refl _) (.int .i64 2))
  obtain ⟨w4, hw4⟩ : ∃ x, ((((w2.setCell ⟨w.heap.size, 8, none⟩ (.int .i64 2)).setCell ⟨w.heap.size, 9, none⟩ (.int .i64 id)).setCell ⟨w.heap.size, 12, none⟩ (.slice none 0 0)).setCell ⟨w.heap.size, 10, none⟩ (.int .i64 2)) = x := ⟨_, rfl⟩
  rw [hw4] at hX4 hY4 hv4 q4 ⊢
  clear hw4 q2
  replace hX := hid_mk hX4
  replace hY := hid_mk hY4
  replace hvI := hid_mk hv4
  clear hX4 hY4 hv4
  refine wp_region_T' (fun w' => w'.cell? ⟨w.heap.size, 0, none⟩ = some (.int .i64 id) ∧ w'.cell? ⟨w.heap.size, 1, none⟩ = some (.int .i64 t) ∧ w'.cell? ⟨w.heap.size, 2, none⟩ = some (.int .i64 v) ∧ w'.cell? ⟨w.heap.size, 3, none⟩ = some (.int .i64 base) ∧ w'.cell? ⟨w.heap.size, 4, none⟩ = some (.int .i64 bt) ∧ w'.cell? ⟨w.heap.size, 5, none⟩ = some (.slice RA n Rc) ∧ w'.cell? ⟨w.heap.size, 6, none⟩ = some (.string s) ∧ w'.cell? ⟨w.heap.size, 7, none⟩ = some (.slice VA m Vc) ∧ w'.cell? ⟨w.heap.size, 8, none⟩ = some (.int .i64 2) ∧ w'.cell? ⟨w.heap.size, 9, none⟩ = some (.int .i64 id) ∧ w'.cell? ⟨w.heap.size, 10, none⟩ = some (.int .i64 2) ∧ w'.cell? ⟨w.heap.size, 11, none⟩ = some (.int .i64 commit) ∧ w'.cell? ⟨w.heap.size, 12, none⟩ = some (.slice none 0 0) ∧ w'.cell? ⟨w.heap.size, 13, none⟩ = some (.slice PA pn Pc)) (fun j => decide (j < 8)) 9 (by kernel_rfl) (by kernel_rfl) (by exact ⟨hX.out.cell 0, hX.out.cell 1, hX.out.cell 2, hX.out.cell 3, hX.out.cell 4, hX.out.cell 5, hX.out.cell 6, hX.out.cell 7, hX.out.cell 8, hX.out.cell 9, hX.out.cell 10, hX.out.cell 11, hX.out.cell 12, hX.out.cell 13⟩) (fun hS0 => ?_)
  replace hX := hid_mk hX.out.drew
  replace hY := hid_mk hY.out.drew
  replace hvI := hid_mk (hvI.out.to (show Below w4.heap.size w4 w4.drew by go_grown))
  have qd : Below w.heap.size w w4.drew := by go_grown
  obtain ⟨wd, hwd⟩ : ∃ x, w4.drew = x := ⟨_, rfl⟩
  rw [hwd] at hS0 hX hY hvI qd ⊢
  clear hwd q4
  refine wpAnyT_take (i := 0) rfl (by kernel_rfl) (by kernel_rfl) (by kernel_rfl) rfl (by kernel_rfl) (fun _ _ _ h => h) (by kernel_rfl) (fun w' hS => (by obtain ⟨s0, s1, s2, s3, s4, s5, s6, s7, s8, s9, s10, s11, s12, s13⟩ := hS; go_simp; try with_reducible rfl)) hS0 ?_
  simp only [Act.put]
  refine wpAnyT_take (i := 1) rfl (by kernel_rfl) (by kernel_rfl) (by kernel_rfl) rfl (by kernel_rfl) (fun _ _ _ h => h) (by kernel_rfl) (fun w' hS => (by obtain ⟨s0, s1, s2, s3, s4, s5, s6, s7, s8, s9, s10, s11, s12, s13⟩ := hS; go_simp; try with_reducible rfl)) hS0 ?_
  simp only [Act.put]
  refine wpAnyT_take (i := 2) rfl (by kernel_rfl) (by kernel_rfl) (by kernel_rfl) rfl (by kernel_rfl) (fun _ _ _ h => h) (by kernel_rfl) (fun w' hS => (by obtain ⟨s0, s1, s2, s3, s4, s5, s6, s7, s8, s9, s10, s11, s12, s13⟩ := hS; go_simp; try with_reducible rfl)) hS0 ?_
  simp only [Act.put]
  refine wpAnyT_take (i := 3) rfl (by kernel_rfl) (by kernel_rfl) (by kernel_rfl) rfl (by kernel_rfl) (fun _ _ _ h => h) (by kernel_rfl) (fun w' hS => (by obtain ⟨s0, s1, s2, s3, s4, s5, s6, s7, s8, s9, s10, s11, s12, s13⟩ := hS; go_simp; try with_reducible rfl)) hS0 ?_
  simp only [Act.put]
  refine wpAnyT_one (i := 4) (by kernel_rfl) rfl (fun K hK => ?_)
  go_simp
  refine (hEL _ (hN4.out _ qd) hj.out).mono ?_
  rintro e w5 ⟨rfl, hb1⟩
  have q5 := (after (w := w) hb1 qd).1
  replace hX := hid_mk (hX.out.keep hb1)
  replace hY := hid_mk (hY.out.keep hb1)
  replace hvI := hid_mk (hvI.out.to hb1)
  have hw64 : IntKind.i64.wrap (la + 1) = la + 1 := IntWalk.i64_in _ (by omega)
  clear hb1 qd
  refine hK.out _ _ (fun _ => ⟨hX.out.cell 0, hX.out.cell 1, hX.out.cell 2, hX.out.cell 3, hX.out.cell 4, hX.out.cell 5, hX.out.cell 6, hX.out.cell 7, hX.out.cell 8, hX.out.cell 9, hX.out.cell 10, hX.out.cell 11, hX.out.cell 12, hX.out.cell 13⟩) ?_
  clear hK K
  try simp only [Act.put]
  refine wpAnyT_take (i := 5) rfl (by kernel_rfl) (by kernel_rfl) (by kernel_rfl) rfl (by kernel_rfl) (fun _ _ _ h => h) (by kernel_rfl) (fun w' hS => (by obtain ⟨s0, s1, s2, s3, s4, s5, s6, s7, s8, s9, s10, s11, s12, s13⟩ := hS; go_simp; try with_reducible rfl)) ⟨hX.out.cell 0, hX.out.cell 1, hX.out.cell 2, hX.out.cell 3, hX.out.cell 4, hX.out.cell 5, hX.out.cell 6, hX.out.cell 7, hX.out.cell 8, hX.out.cell 9, hX.out.cell 10, hX.out.cell 11, hX.out.cell 12, hX.out.cell 13⟩ ?_
  simp only [Act.put]
  refine wpAnyT_one (i := 6) (by kernel_rfl) rfl (fun K hK => ?_)
  go_simp
  refine (EPeers_any vo id (la + 1) [] VA2 vn vc none 0 0 _ (B := 0) hvI.out Reads.none_ hv7 (Nat.zero_le _) (asc_none (by have h := hvr.out; unfold rightL at h; simp only [Bool.and_eq_true] at h; exact h.1)).1 (right_digits hvr.out) List.Pairwise.nil (fun _ h => by cases h)).mono ?_
  rw [hPS.out]
  rintro e w6 ⟨QA, qn, Qc, rfl, hQ6, hqc, hb1⟩
  have hq9 := hid_mk hQ6.len
  have q6 := (after (w := w) hb1 q5).1
  replace hX := hid_mk (hX.out.keep hb1)
  replace hY := hid_mk (hY.out.keep hb1)
  replace hQ6 := hid_mk hQ6
  clear hb1 q5 hvI
  refine hK.out _ _ (fun _ => ⟨hX.out.cell 0, hX.out.cell 1, hX.out.cell 2, hX.out.cell 3, hX.out.cell 4, hX.out.cell 5, hX.out.cell 6, hX.out.cell 7, hX.out.cell 8, hX.out.cell 9, hX.out.cell 10, hX.out.cell 11, hX.out.cell 12, hX.out.cell 13⟩) ?_
  clear hK K
  try simp only [Act.put]
  refine wpAnyT_one (i := 7) (by kernel_rfl) rfl (fun K hK => ?_)
  go_simp
  refine hK.out _ _ (fun _ => ⟨hX.out.cell 0, hX.out.cell 1, hX.out.cell 2, hX.out.cell 3, hX.out.cell 4, hX.out.cell 5, hX.out.cell 6, hX.out.cell 7, hX.out.cell 8, hX.out.cell 9, hX.out.cell 10, hX.out.cell 11, hX.out.cell 12, hX.out.cell 13⟩) ?_
  clear hK K
  try simp only [Act.put]
  have x13 := hX.out.cell 13
  change _ = some (Value.slice PA pn Pc) at x13
  have xf13 := hX.out.frozen 13
  have xl13 := hX.out.lt
  refine wpAnyT_one (i := 8) (by kernel_rfl) rfl (fun K hK => ?_)
  go_simp
  refine hK.out _ _ (fun h => absurd h (by decide)) ?_
  clear hK K
  try simp only [Act.put]
  refine wpAnyT_done (by kernel_rfl) ?_ _
  clear x13 xf13 xl13
  have hXn : Blk (w6.setCell ⟨w.heap.size, 13, none⟩ (.slice QA qn Qc)) (w.heap.size) 30 #[.int .i64 id, .int .i64 t, .int .i64 v, .int .i64 base, .int .i64 bt, .slice RA n Rc, .string s, .slice VA m Vc, .int .i64 2, .int .i64 id, .int .i64 2, .int .i64 commit, .slice none 0 0, .slice QA qn Qc] := hX.out.set_ 13 _
  have hYn := hY.out.far (p := ⟨w.heap.size, 13, none⟩) (by dsimp only; omega) (.slice QA qn Qc)
  have hQn : Prs (w6.setCell ⟨w.heap.size, 13, none⟩ (.slice QA qn Qc)) 0 QA qn PS := Reads.far hQ6.out hX.out (Nat.zero_le _) (by decide) 13 _
  have q7 := q6.setCell (p := ⟨w.heap.size, 13, none⟩) (Nat.le_refl _) (.slice QA qn Qc)
  obtain ⟨w7, hw7⟩ : ∃ x, (w6.setCell ⟨w.heap.size, 13, none⟩ (.slice QA qn Qc)) = x := ⟨_, rfl⟩
  rw [hw7] at hXn hYn hQn q7 ⊢
  clear hw7 hX hY hQ6 q6
  have hX := hid_mk hXn
  have hY := hid_mk hYn
  have hqn : qn ≤ 9 := by
    rw [← hq9.out, ← hPS.out]
    have h := right_len hvr.out
    unfold peersF
    rw [List.length_map]
    exact Nat.le_trans (List.length_filter_le _ _) (by omega)
  have hok7 : Hid (NdOk w7 B NB0 ⟨⟨RA, n, Rc⟩, ⟨VA, m, Vc⟩, ⟨none, 0, 0⟩, ⟨QA, qn, Qc⟩⟩) := by
    rw [hNBe.out]
    exact ⟨hN0.recs.to q7, hN0.rc, hN0.rb, hN0.vs.to q7, hN0.vc, hN0.vb, hN0.sb, Reads.none_, Nat.le_refl _, by dsimp only; omega, hQn.more (Nat.zero_le _), hqc, by dsimp only; omega⟩
  clear hXn hYn hQn
  have hEW7 := fun (w : World) (h0 : B ≤ w.heap.size) (k : NdOk w B NB0 ⟨⟨RA, n, Rc⟩, ⟨VA, m, Vc⟩, ⟨none, 0, 0⟩, ⟨QA, qn, Qc⟩⟩) (ht : Tab w) => hEW ⟨⟨RA, n, Rc⟩, ⟨VA, m, Vc⟩, ⟨none, 0, 0⟩, ⟨QA, qn, Qc⟩⟩ w h0 k hj.out ht
  rw [hNBe.out] at hEW7
  unfold nodeV recVal at hEW7
  dsimp only at hEW7
  rw [← hNBe.out] at hEW7
  have z7 := q7.size
  clear hEW
  obtain ⟨xl, x0, x1, x2, x3, x4, x5, x6, x7, x8, x9, x10, x11, x12, x13, xf0, xf1, xf2, xf3, xf4, xf5, xf6, xf7, xf8, xf9, xf10, xf11, xf12, xf13⟩ := blk14f hX.out
  go_wp2_with fail
  clear xl x0 x1 x2 x3 x4 x5 x6 x7 x8 x9 x10 x11 x12 x13 xf0 xf1 xf2 xf3 xf4 xf5 xf6 xf7 xf8 xf9 xf10 xf11 xf12 xf13
  refine (hEW7 _ (by omega) hok7.out (ht.to q7)).mono ?_
  rintro e w8 ⟨a8, rfl, hok8, hb1⟩
  unfold nodeV
  have q8 := (after (w := w) hb1 q7).1
  replace hX := hid_mk (hX.out.keep hb1)
  replace hY := hid_mk (hY.out.keep hb1)
  have hok7' := hid_mk (hok7.out.to hb1)
  replace hok8 := hid_mk hok8
  clear hb1 q7 z7 hEW7 hok7
  have q8' := q8
  have z8 := q8.size
  replace hX := hid_mk (hX.out.alloc (.cells #[.int .i64 NW.id, .int .i64 NW.h.t, .int .i64 NW.h.v, .int .i64 NW.h.l.base, .int .i64 NW.h.l.bt, .slice a8.R.A a8.R.n a8.R.c, .string NW.h.s, .slice a8.V.A a8.V.n a8.V.c, .int .i64 NW.role, .int .i64 NW.lead, .int .i64 NW.timer, .int .i64 NW.commit, .slice a8.G.A a8.G.n a8.G.c, .slice a8.P.A a8.P.n a8.P.c] 30))
  replace hY := hid_mk (hY.out.alloc (.cells #[.int .i64 NW.id, .int .i64 NW.h.t, .int .i64 NW.h.v, .int .i64 NW.h.l.base, .int .i64 NW.h.l.bt, .slice a8.R.A a8.R.n a8.R.c, .string NW.h.s, .slice a8.V.A a8.V.n a8.V.c, .int .i64 NW.role, .int .i64 NW.lead, .int .i64 NW.timer, .int .i64 NW.commit, .slice a8.G.A a8.G.n a8.G.c, .slice a8.P.A a8.P.n a8.P.c] 30))
  obtain ⟨gM, hgM⟩ : ∃ g, w8.heap.size = g := ⟨_, rfl⟩
  have hM : Hid (Blk (w8.alloc (.cells #[.int .i64 NW.id, .int .i64 NW.h.t, .int .i64 NW.h.v, .int .i64 NW.h.l.base, .int .i64 NW.h.l.bt, .slice a8.R.A a8.R.n a8.R.c, .string NW.h.s, .slice a8.V.A a8.V.n a8.V.c, .int .i64 NW.role, .int .i64 NW.lead, .int .i64 NW.timer, .int .i64 NW.commit, .slice a8.G.A a8.G.n a8.G.c, .slice a8.P.A a8.P.n a8.P.c] 30)) gM 30 #[.int .i64 NW.id, .int .i64 NW.h.t, .int .i64 NW.h.v, .int .i64 NW.h.l.base, .int .i64 NW.h.l.bt, .slice a8.R.A a8.R.n a8.R.c, .string NW.h.s, .slice a8.V.A a8.V.n a8.V.c, .int .i64 NW.role, .int .i64 NW.lead, .int .i64 NW.timer, .int .i64 NW.commit, .slice a8.G.A a8.G.n a8.G.c, .slice a8.P.A a8.P.n a8.P.c]) := by rw [← hgM]; exact Blk.new _ _ _
  have hok7 : Hid (NdOk (w8.alloc (.cells #[.int .i64 NW.id, .int .i64 NW.h.t, .int .i64 NW.h.v, .int .i64 NW.h.l.base, .int .i64 NW.h.l.bt, .slice a8.R.A a8.R.n a8.R.c, .string NW.h.s, .slice a8.V.A a8.V.n a8.V.c, .int .i64 NW.role, .int .i64 NW.lead, .int .i64 NW.timer, .int .i64 NW.commit, .slice a8.G.A a8.G.n a8.G.c, .slice a8.P.A a8.P.n a8.P.c] 30)) B NB0 ⟨⟨RA, n, Rc⟩, ⟨VA, m, Vc⟩, ⟨none, 0, 0⟩, ⟨QA, qn, Qc⟩⟩) := hok7'.out.to (by go_grown)
  replace hok8 : Hid (NdOk (w8.alloc (.cells #[.int .i64 NW.id, .int .i64 NW.h.t, .int .i64 NW.h.v, .int .i64 NW.h.l.base, .int .i64 NW.h.l.bt, .slice a8.R.A a8.R.n a8.R.c, .string NW.h.s, .slice a8.V.A a8.V.n a8.V.c, .int .i64 NW.role, .int .i64 NW.lead, .int .i64 NW.timer, .int .i64 NW.commit, .slice a8.G.A a8.G.n a8.G.c, .slice a8.P.A a8.P.n a8.P.c] 30)) B NW a8) := hok8.out.to (by go_grown)
  have q9 : Below w.heap.size w (w8.alloc (.cells #[.int .i64 NW.id, .int .i64 NW.h.t, .int .i64 NW.h.v, .int .i64 NW.h.l.base, .int .i64 NW.h.l.bt, .slice a8.R.A a8.R.n a8.R.c, .string NW.h.s, .slice a8.V.A a8.V.n a8.V.c, .int .i64 NW.role, .int .i64 NW.lead, .int .i64 NW.timer, .int .i64 NW.commit, .slice a8.G.A a8.G.n a8.G.c, .slice a8.P.A a8.P.n a8.P.c] 30)) := by go_grown
  obtain ⟨w9, hw9⟩ : ∃ x, (w8.alloc (.cells #[.int .i64 NW.id, .int .i64 NW.h.t, .int .i64 NW.h.v, .int .i64 NW.h.l.base, .int .i64 NW.h.l.bt, .slice a8.R.A a8.R.n a8.R.c, .string NW.h.s, .slice a8.V.A a8.V.n a8.V.c, .int .i64 NW.role, .int .i64 NW.lead, .int .i64 NW.timer, .int .i64 NW.commit, .slice a8.G.A a8.G.n a8.G.c, .slice a8.P.A a8.P.n a8.P.c] 30)) = x := ⟨_, rfl⟩
  rw [hw9] at hX hY hM hok7 hok8 q9
  replace hw9 := hid_mk hw9
  replace hgM := hid_mk hgM
  clear hok7' q8' q8
  go_upto_region 7 with fail
  rw [hw9.out, hgM.out]
  clear hw9 hgM z8
  have z9 := q9.size
  cases zh
  case false =>
    exact absurd hB.out (by decide)
  case true =>
    have hw := hid_mk (hWt.out (by first | rfl | trivial))
    obtain ⟨xl, x0, x1, x2, x3, x4, x5, x6, x7, x8, x9, x10, x11, x12, x13, xf0, xf1, xf2, xf3, xf4, xf5, xf6, xf7, xf8, xf9, xf10, xf11, xf12, xf13⟩ := blk14f hX.out
    obtain ⟨ml, m0, m1, m2, m3, m4, m5, m6, m7, m8, m9, m10, m11, m12, m13, mf0, mf1, mf2, mf3, mf4, mf5, mf6, mf7, mf8, mf9, mf10, mf11, mf12, mf13⟩ := blk14f hM.out
    go_upto_region 9 with fail
    clear xl x0 x1 x2 x3 x4 x5 x6 x7 x8 x9 x10 x11 x12 x13 xf0 xf1 xf2 xf3 xf4 xf5 xf6 xf7 xf8 xf9 xf10 xf11 xf12 xf13
    clear ml m0 m1 m2 m3 m4 m5 m6 m7 m8 m9 m10 m11 m12 m13 mf0 mf1 mf2 mf3 mf4 mf5 mf6 mf7 mf8 mf9 mf10 mf11 mf12 mf13
    have hXn := set14_blk hX.out (.int .i64 NW.id) (.int .i64 NW.h.t) (.int .i64 NW.h.v) (.int .i64 NW.h.l.base) (.int .i64 NW.h.l.bt) (.slice a8.R.A a8.R.n a8.R.c) (.string NW.h.s) (.slice a8.V.A a8.V.n a8.V.c) (.int .i64 NW.role) (.int .i64 NW.lead) (.int .i64 NW.timer) (.int .i64 NW.commit) (.slice a8.G.A a8.G.n a8.G.c) (.slice a8.P.A a8.P.n a8.P.c)
    have hYn := set14_farS hY.out (by omega : w.heap.size + 1 ≠ w.heap.size) (.int .i64 NW.id) (.int .i64 NW.h.t) (.int .i64 NW.h.v) (.int .i64 NW.h.l.base) (.int .i64 NW.h.l.bt) (.slice a8.R.A a8.R.n a8.R.c) (.string NW.h.s) (.slice a8.V.A a8.V.n a8.V.c) (.int .i64 NW.role) (.int .i64 NW.lead) (.int .i64 NW.timer) (.int .i64 NW.commit) (.slice a8.G.A a8.G.n a8.G.c) (.slice a8.P.A a8.P.n a8.P.c)
    have qn9 := set14_below (.int .i64 NW.id) (.int .i64 NW.h.t) (.int .i64 NW.h.v) (.int .i64 NW.h.l.base) (.int .i64 NW.h.l.bt) (.slice a8.R.A a8.R.n a8.R.c) (.string NW.h.s) (.slice a8.V.A a8.V.n a8.V.c) (.int .i64 NW.role) (.int .i64 NW.lead) (.int .i64 NW.timer) (.int .i64 NW.commit) (.slice a8.G.A a8.G.n a8.G.c) (.slice a8.P.A a8.P.n a8.P.c) q9 (Nat.le_refl _)
    have hokn := nd_st14 hok8.out hX.out hBw (.int .i64 NW.id) (.int .i64 NW.h.t) (.int .i64 NW.h.v) (.int .i64 NW.h.l.base) (.int .i64 NW.h.l.bt) (.slice a8.R.A a8.R.n a8.R.c) (.string NW.h.s) (.slice a8.V.A a8.V.n a8.V.c) (.int .i64 NW.role) (.int .i64 NW.lead) (.int .i64 NW.timer) (.int .i64 NW.commit) (.slice a8.G.A a8.G.n a8.G.c) (.slice a8.P.A a8.P.n a8.P.c)
    obtain ⟨wn, hwn⟩ : ∃ x, set14 w9 w.heap.size (.int .i64 NW.id) (.int .i64 NW.h.t) (.int .i64 NW.h.v) (.int .i64 NW.h.l.base) (.int .i64 NW.h.l.bt) (.slice a8.R.A a8.R.n a8.R.c) (.string NW.h.s) (.slice a8.V.A a8.V.n a8.V.c) (.int .i64 NW.role) (.int .i64 NW.lead) (.int .i64 NW.timer) (.int .i64 NW.commit) (.slice a8.G.A a8.G.n a8.G.c) (.slice a8.P.A a8.P.n a8.P.c) = x := ⟨_, rfl⟩
    rw [hwn] at hXn hYn qn9 hokn
    unfold set14 at hwn
    rw [hwn]
    clear hwn q9 hX hY
    have hY := hid_mk hYn
    have q9 := qn9
    obtain ⟨a9, hX9, hok9⟩ : ∃ a9 : NdA, Hid (Blk wn (w.heap.size) 30 #[.int .i64 W2.id, .int .i64 W2.h.t, .int .i64 W2.h.v, .int .i64 W2.h.l.base, .int .i64 W2.h.l.bt, .slice a9.R.A a9.R.n a9.R.c, .string W2.h.s, .slice a9.V.A a9.V.n a9.V.c, .int .i64 W2.role, .int .i64 W2.lead, .int .i64 W2.timer, .int .i64 W2.commit, .slice a9.G.A a9.G.n a9.G.c, .slice a9.P.A a9.P.n a9.P.c]) ∧ Hid (NdOk wn B W2 a9) := ⟨a8, by rw [hw.out]; exact hXn, by rw [hw.out]; exact hokn⟩
    clear hXn hYn qn9 hokn
    obtain ⟨wc, hwc⟩ : ∃ x, x = wn := ⟨wn, rfl⟩
    subst hwc
    have qc := q9
    clear hok7 hok8 hM q9 z9
    try clear hX
    have hX := hX9
    clear hX9
    obtain ⟨NS, hNS⟩ : ∃ x, sureN W2 = x := ⟨_, rfl⟩
    have hES := fun (w : World) (k : NdOk w B W2 a9) (hm : w.cell? ⟨0, 0, none⟩ = some (.int .i64 mm)) => ESure_any W2 a9 w k hy3.out mm hm
    have hrs := hid_mk (sure_right hy3.out)
    have hokS : Hid (NdOk wc B NS a9) := by
      rw [← hNS]
      have e := sure_same W2
      have h := hok9.out
      exact ⟨by rw [e.2.1]; exact h.recs, h.rc, h.rb, by rw [e.2.1]; exact h.vs, h.vc, h.vb, by rw [e.2.1]; exact h.sb, by rw [e.2.2.2.2.2.1]; exact h.got, h.gc, h.gb, by rw [e.2.2.2.2.2.2.1]; exact h.ps, h.pc, h.pb⟩
    rw [hNS] at hES hrs hy1 hy2
    replace hNS := hid_mk hNS
    unfold nodeV at hES
    have hSA := fun (w : World) (h0 : B ≤ w.heap.size) (k : NdOk w B NS a9) => ESendAll_any NS a9 w h0 k hrs.out
    unfold nodeV at hSA
    obtain ⟨LS, hLS⟩ : ∃ x, allM NS = x := ⟨_, rfl⟩
    rw [hLS] at hSA hy2
    replace hLS := hid_mk hLS
    obtain ⟨xl, x0, x1, x2, x3, x4, x5, x6, x7, x8, x9, x10, x11, x12, x13, xf0, xf1, xf2, xf3, xf4, xf5, xf6, xf7, xf8, xf9, xf10, xf11, xf12, xf13⟩ := blk14f hX.out
    go_wp2_with fail
    clear xl x0 x1 x2 x3 x4 x5 x6 x7 x8 x9 x10 x11 x12 x13 xf0 xf1 xf2 xf3 xf4 xf5 xf6 xf7 xf8 xf9 xf10 xf11 xf12 xf13
    refine (hES _ hok9.out (hm2.out _ qc)).mono ?_
    rintro e w10 ⟨rfl, hb1⟩
    have q10 := (after (w := w) hb1 qc).1
    replace hX := hid_mk (hX.out.keep hb1)
    replace hY := hid_mk (hY.out.keep hb1)
    replace hokS := hid_mk (hokS.out.to hb1)
    clear hb1 qc hES hok9
    obtain ⟨xl, x0, x1, x2, x3, x4, x5, x6, x7, x8, x9, x10, x11, x12, x13, xf0, xf1, xf2, xf3, xf4, xf5, xf6, xf7, xf8, xf9, xf10, xf11, xf12, xf13⟩ := blk14f hX.out
    go_upto_region 10 with fail
    clear xl x0 x1 x2 x3 x4 x5 x6 x7 x8 x9 x10 x11 x12 x13 xf0 xf1 xf2 xf3 xf4 xf5 xf6 xf7 xf8 xf9 xf10 xf11 xf12 xf13
    have hXn := set14_blk hX.out (.int .i64 NS.id) (.int .i64 NS.h.t) (.int .i64 NS.h.v) (.int .i64 NS.h.l.base) (.int .i64 NS.h.l.bt) (.slice a9.R.A a9.R.n a9.R.c) (.string NS.h.s) (.slice a9.V.A a9.V.n a9.V.c) (.int .i64 NS.role) (.int .i64 NS.lead) (.int .i64 NS.timer) (.int .i64 NS.commit) (.slice a9.G.A a9.G.n a9.G.c) (.slice a9.P.A a9.P.n a9.P.c)
    have hYn := set14_farS hY.out (by omega : w.heap.size + 1 ≠ w.heap.size) (.int .i64 NS.id) (.int .i64 NS.h.t) (.int .i64 NS.h.v) (.int .i64 NS.h.l.base) (.int .i64 NS.h.l.bt) (.slice a9.R.A a9.R.n a9.R.c) (.string NS.h.s) (.slice a9.V.A a9.V.n a9.V.c) (.int .i64 NS.role) (.int .i64 NS.lead) (.int .i64 NS.timer) (.int .i64 NS.commit) (.slice a9.G.A a9.G.n a9.G.c) (.slice a9.P.A a9.P.n a9.P.c)
    have q11 := set14_below (.int .i64 NS.id) (.int .i64 NS.h.t) (.int .i64 NS.h.v) (.int .i64 NS.h.l.base) (.int .i64 NS.h.l.bt) (.slice a9.R.A a9.R.n a9.R.c) (.string NS.h.s) (.slice a9.V.A a9.V.n a9.V.c) (.int .i64 NS.role) (.int .i64 NS.lead) (.int .i64 NS.timer) (.int .i64 NS.commit) (.slice a9.G.A a9.G.n a9.G.c) (.slice a9.P.A a9.P.n a9.P.c) q10 (Nat.le_refl _)
    have hokn := nd_st14 hokS.out hX.out hBw (.int .i64 NS.id) (.int .i64 NS.h.t) (.int .i64 NS.h.v) (.int .i64 NS.h.l.base) (.int .i64 NS.h.l.bt) (.slice a9.R.A a9.R.n a9.R.c) (.string NS.h.s) (.slice a9.V.A a9.V.n a9.V.c) (.int .i64 NS.role) (.int .i64 NS.lead) (.int .i64 NS.timer) (.int .i64 NS.commit) (.slice a9.G.A a9.G.n a9.G.c) (.slice a9.P.A a9.P.n a9.P.c)
    obtain ⟨w11, hw11⟩ : ∃ x, set14 w10 w.heap.size (.int .i64 NS.id) (.int .i64 NS.h.t) (.int .i64 NS.h.v) (.int .i64 NS.h.l.base) (.int .i64 NS.h.l.bt) (.slice a9.R.A a9.R.n a9.R.c) (.string NS.h.s) (.slice a9.V.A a9.V.n a9.V.c) (.int .i64 NS.role) (.int .i64 NS.lead) (.int .i64 NS.timer) (.int .i64 NS.commit) (.slice a9.G.A a9.G.n a9.G.c) (.slice a9.P.A a9.P.n a9.P.c) = x := ⟨_, rfl⟩
    rw [hw11] at hXn hYn q11 hokn
    unfold set14 at hw11
    rw [hw11]
    clear hw11 hX hY hokS q10
    have hX := hid_mk hXn
    have hY := hid_mk hYn
    have hokS := hid_mk hokn
    clear hXn hYn hokn
    refine wp_region_T' (fun w' => w'.cell? ⟨w.heap.size, 0, none⟩ = some (.int .i64 NS.id) ∧ w'.cell? ⟨w.heap.size, 1, none⟩ = some (.int .i64 NS.h.t) ∧ w'.cell? ⟨w.heap.size, 2, none⟩ = some (.int .i64 NS.h.v) ∧ w'.cell? ⟨w.heap.size, 3, none⟩ = some (.int .i64 NS.h.l.base) ∧ w'.cell? ⟨w.heap.size, 4, none⟩ = some (.int .i64 NS.h.l.bt) ∧ w'.cell? ⟨w.heap.size, 5, none⟩ = some (.slice a9.R.A a9.R.n a9.R.c) ∧ w'.cell? ⟨w.heap.size, 6, none⟩ = some (.string NS.h.s) ∧ w'.cell? ⟨w.heap.size, 7, none⟩ = some (.slice a9.V.A a9.V.n a9.V.c) ∧ w'.cell? ⟨w.heap.size, 8, none⟩ = some (.int .i64 NS.role) ∧ w'.cell? ⟨w.heap.size, 9, none⟩ = some (.int .i64 NS.lead) ∧ w'.cell? ⟨w.heap.size, 10, none⟩ = some (.int .i64 NS.timer) ∧ w'.cell? ⟨w.heap.size, 11, none⟩ = some (.int .i64 NS.commit) ∧ w'.cell? ⟨w.heap.size, 12, none⟩ = some (.slice a9.G.A a9.G.n a9.G.c) ∧ w'.cell? ⟨w.heap.size, 13, none⟩ = some (.slice a9.P.A a9.P.n a9.P.c)) (fun j => decide (j < 5)) 5 (by kernel_rfl) (by kernel_rfl) (by exact ⟨hX.out.cell 0, hX.out.cell 1, hX.out.cell 2, hX.out.cell 3, hX.out.cell 4, hX.out.cell 5, hX.out.cell 6, hX.out.cell 7, hX.out.cell 8, hX.out.cell 9, hX.out.cell 10, hX.out.cell 11, hX.out.cell 12, hX.out.cell 13⟩) (fun hS0 => ?_)
    replace hX := hid_mk hX.out.drew
    replace hY := hid_mk hY.out.drew
    replace hokS := hid_mk (hokS.out.to (show Below w11.heap.size w11 w11.drew by go_grown))
    have qd : Below w.heap.size w w11.drew := by go_grown
    obtain ⟨wd, hwd⟩ : ∃ x, w11.drew = x := ⟨_, rfl⟩
    rw [hwd] at hS0 hX hY hokS qd ⊢
    clear hwd q11
    have zd := qd.size
    refine wpAnyT_take (i := 0) rfl (by kernel_rfl) (by kernel_rfl) (by kernel_rfl) rfl (by kernel_rfl) (fun _ _ _ h => h) (by kernel_rfl) (fun w' hS => (by obtain ⟨s0, s1, s2, s3, s4, s5, s6, s7, s8, s9, s10, s11, s12, s13⟩ := hS; go_simp; try with_reducible rfl)) hS0 ?_
    simp only [Act.put]
    refine wpAnyT_take (i := 1) rfl (by kernel_rfl) (by kernel_rfl) (by kernel_rfl) rfl (by kernel_rfl) (fun _ _ _ h => h) (by kernel_rfl) (fun w' hS => (by obtain ⟨s0, s1, s2, s3, s4, s5, s6, s7, s8, s9, s10, s11, s12, s13⟩ := hS; go_simp; try with_reducible rfl)) hS0 ?_
    simp only [Act.put]
    refine wpAnyT_one (i := 2) (by kernel_rfl) rfl (fun K hK => ?_)
    go_simp
    refine (hSA _ (by omega) hokS.out).mono ?_
    rintro e w12 ⟨LA, ln, lc, pm, rfl, hMg, hpm, hlc, hb1⟩
    have q12 := (after (w := w) hb1 qd).1
    replace hX := hid_mk (hX.out.keep hb1)
    replace hY := hid_mk (hY.out.keep hb1)
    replace hokS := hid_mk (hokS.out.to hb1)
    replace hMg := hid_mk hMg
    replace hpm := hid_mk hpm
    clear hb1 qd
    refine hK.out _ _ (fun _ => ⟨hX.out.cell 0, hX.out.cell 1, hX.out.cell 2, hX.out.cell 3, hX.out.cell 4, hX.out.cell 5, hX.out.cell 6, hX.out.cell 7, hX.out.cell 8, hX.out.cell 9, hX.out.cell 10, hX.out.cell 11, hX.out.cell 12, hX.out.cell 13⟩) ?_
    clear hK K
    try simp only [Act.put]
    obtain ⟨yl, y0, y1, y2, y3, y4, y5, y6, y7, y8, y9, y10, y11, y12, y13, yf0, yf1, yf2, yf3, yf4, yf5, yf6, yf7, yf8, yf9, yf10, yf11, yf12, yf13⟩ := blk14f hY.out
    refine wpAnyT_one (i := 3) (by kernel_rfl) rfl (fun K hK => ?_)
    go_simp
    clear yl y0 y1 y2 y3 y4 y5 y6 y7 y8 y9 y10 y11 y12 y13 yf0 yf1 yf2 yf3 yf4 yf5 yf6 yf7 yf8 yf9 yf10 yf11 yf12 yf13
    have hMz := mgs_st14 hMg.out hY.out (by omega) (.int .i64 NS.id) (.int .i64 NS.h.t) (.int .i64 NS.h.v) (.int .i64 NS.h.l.base) (.int .i64 NS.h.l.bt) (.slice a9.R.A a9.R.n a9.R.c) (.string NS.h.s) (.slice a9.V.A a9.V.n a9.V.c) (.int .i64 NS.role) (.int .i64 NS.lead) (.int .i64 NS.timer) (.int .i64 NS.commit) (.slice a9.G.A a9.G.n a9.G.c) (.slice a9.P.A a9.P.n a9.P.c)
    have hokz := nd_st14 hokS.out hY.out (by omega) (.int .i64 NS.id) (.int .i64 NS.h.t) (.int .i64 NS.h.v) (.int .i64 NS.h.l.base) (.int .i64 NS.h.l.bt) (.slice a9.R.A a9.R.n a9.R.c) (.string NS.h.s) (.slice a9.V.A a9.V.n a9.V.c) (.int .i64 NS.role) (.int .i64 NS.lead) (.int .i64 NS.timer) (.int .i64 NS.commit) (.slice a9.G.A a9.G.n a9.G.c) (.slice a9.P.A a9.P.n a9.P.c)
    replace hX := hid_mk (set14_farS hX.out (by omega : w.heap.size ≠ w.heap.size + 1) (.int .i64 NS.id) (.int .i64 NS.h.t) (.int .i64 NS.h.v) (.int .i64 NS.h.l.base) (.int .i64 NS.h.l.bt) (.slice a9.R.A a9.R.n a9.R.c) (.string NS.h.s) (.slice a9.V.A a9.V.n a9.V.c) (.int .i64 NS.role) (.int .i64 NS.lead) (.int .i64 NS.timer) (.int .i64 NS.commit) (.slice a9.G.A a9.G.n a9.G.c) (.slice a9.P.A a9.P.n a9.P.c))
    have qz := set14_below (.int .i64 NS.id) (.int .i64 NS.h.t) (.int .i64 NS.h.v) (.int .i64 NS.h.l.base) (.int .i64 NS.h.l.bt) (.slice a9.R.A a9.R.n a9.R.c) (.string NS.h.s) (.slice a9.V.A a9.V.n a9.V.c) (.int .i64 NS.role) (.int .i64 NS.lead) (.int .i64 NS.timer) (.int .i64 NS.commit) (.slice a9.G.A a9.G.n a9.G.c) (.slice a9.P.A a9.P.n a9.P.c) q12 (by omega : w.heap.size ≤ w.heap.size + 1)
    replace hY := hid_mk (set14_blk hY.out (.int .i64 NS.id) (.int .i64 NS.h.t) (.int .i64 NS.h.v) (.int .i64 NS.h.l.base) (.int .i64 NS.h.l.bt) (.slice a9.R.A a9.R.n a9.R.c) (.string NS.h.s) (.slice a9.V.A a9.V.n a9.V.c) (.int .i64 NS.role) (.int .i64 NS.lead) (.int .i64 NS.timer) (.int .i64 NS.commit) (.slice a9.G.A a9.G.n a9.G.c) (.slice a9.P.A a9.P.n a9.P.c))
    obtain ⟨wz, hwz⟩ : ∃ x, set14 w12 (w.heap.size + 1) (.int .i64 NS.id) (.int .i64 NS.h.t) (.int .i64 NS.h.v) (.int .i64 NS.h.l.base) (.int .i64 NS.h.l.bt) (.slice a9.R.A a9.R.n a9.R.c) (.string NS.h.s) (.slice a9.V.A a9.V.n a9.V.c) (.int .i64 NS.role) (.int .i64 NS.lead) (.int .i64 NS.timer) (.int .i64 NS.commit) (.slice a9.G.A a9.G.n a9.G.c) (.slice a9.P.A a9.P.n a9.P.c) = x := ⟨_, rfl⟩
    rw [hwz] at hX hY hMz hokz qz
    unfold set14 at hwz
    rw [hwz]
    clear hwz
    refine hK.out _ _ (fun _ => ⟨hX.out.cell 0, hX.out.cell 1, hX.out.cell 2, hX.out.cell 3, hX.out.cell 4, hX.out.cell 5, hX.out.cell 6, hX.out.cell 7, hX.out.cell 8, hX.out.cell 9, hX.out.cell 10, hX.out.cell 11, hX.out.cell 12, hX.out.cell 13⟩) ?_
    clear hK K
    try simp only [Act.put]
    refine wpAnyT_one (i := 4) (by kernel_rfl) rfl (fun K hK => ?_)
    go_simp
    refine hK.out _ _ (fun _ => ⟨hX.out.cell 0, hX.out.cell 1, hX.out.cell 2, hX.out.cell 3, hX.out.cell 4, hX.out.cell 5, hX.out.cell 6, hX.out.cell 7, hX.out.cell 8, hX.out.cell 9, hX.out.cell 10, hX.out.cell 11, hX.out.cell 12, hX.out.cell 13⟩) ?_
    clear hK K
    try simp only [Act.put]
    refine wpAnyT_done (by kernel_rfl) ?_ _
    obtain ⟨_, y0, y1, y2, y3, y4, y5, y6, y7, y8, y9, y10, y11, y12, y13⟩ := blk14c hY.out
    go_wp2
    refine ends_ret hQ (v := .tuple #[.agg #[.int .i64 NS.id, .int .i64 NS.h.t, .int .i64 NS.h.v, .int .i64 NS.h.l.base, .int .i64 NS.h.l.bt, .slice a9.R.A a9.R.n a9.R.c, .string NS.h.s, .slice a9.V.A a9.V.n a9.V.c, .int .i64 NS.role, .int .i64 NS.lead, .int .i64 NS.timer, .int .i64 NS.commit, .slice a9.G.A a9.G.n a9.G.c, .slice a9.P.A a9.P.n a9.P.c], .slice LA ln lc]) (by simp [results, Tryz.results24, go_sem, y0, y1, y2, y3, y4, y5, y6, y7, y8, y9, y10, y11, y12, y13]) rfl ?_
    exact ⟨a9, LA, ln, lc, pm, by rw [hy1.out]; rfl, by rw [hy1.out]; exact hokz, hMz, by rw [hy2.out]; exact hpm.out, hlc, qz⟩
theorem ELead_any (N : Nd) (a : NdA) (w : World) {B : Nat} (hBw : B ≤ w.heap.size) (hN : NdOk w B N a) (ht : Tab w) (mm : Int) (hm : w.cell? ⟨0, 0, none⟩ = some (.int .i64 mm)) :
    Calls Tryz.prog 24 #[nodeV N a] w (RetNMs w B (leadN N) (leadL N)) := by
  cases h1 : (rightN N && N.role == 1) with
  | false => exact ELead1_any N a w hBw hN ht mm hm h1
  | true =>
    simp only [Bool.and_eq_true, beq_iff_eq] at h1
    cases h2 : rightH (withH N.h ⟨N.h.t, 0, ⟨#[]⟩⟩) with
    | false => exact ELead2_any N a w hBw hN ht mm hm h1 h2
    | true => exact ELead3_any N a w hBw hN ht mm hm h1 h2
end Go.Proofs.YtncdjmpdbinanaaGreatDoor
