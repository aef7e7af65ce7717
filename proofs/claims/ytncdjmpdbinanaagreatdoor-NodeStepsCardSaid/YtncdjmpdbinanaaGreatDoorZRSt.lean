/-
  WHAT IS PROVED HERE: what the reference's Stand hands back of a node that may be. Condition: the slices are of at most 2^43 elements.
-/
import Derived.Test.YtncdjmpdbinanaaGreatDoorZRLt
import Derived.Test.YtncdjmpdbinanaaGreatDoorZStd
import Derived.Test.YtncdjmpdbinanaaGreatDoorZGStd
namespace Go.Proofs.YtncdjmpdbinanaaGreatDoor
open Go.RowKit

set_option maxRecDepth 100000 in
set_option maxHeartbeats 12800000 in
theorem RStandO_any (N : Nd) (a : NdA) (d : Int) (w : World) {B : Nat} (hBw : B ≤ w.heap.size) (hN : NdOk w B N a) (hzr : rightN N = true) :
    Calls Tryz.prog 108 #[nodeV N a, .int .i64 d] w fun e w' => RetSO w B (standN N d) (standL N) (standW N) e w' ∧ Below w.heap.size w w' := by
  obtain ⟨S, hS⟩ : ∃ z, standN N d = z := ⟨_, rfl⟩
  obtain ⟨L, hL⟩ : ∃ z, standL N = z := ⟨_, rfl⟩
  obtain ⟨Wn, hWn⟩ : ∃ z, standW N = z := ⟨_, rfl⟩
  obtain ⟨vo, hvo⟩ : ∃ z, votersN N = z := ⟨_, rfl⟩
  have hno2 : Hid ((decide (N.h.t < 1073741824) && inL N.id vo) = false → S = timN N d ∧ L = [] ∧ Wn = false) := fun e2 => by
    have hc : standC N = false := by unfold standC; rw [hzr, hvo, e2]; rfl
    rw [← hS, ← hL, ← hWn]
    unfold standN standL standW
    rw [hzr, hc]
    exact ⟨rfl, rfl, rfl⟩
  have hyes : Hid ((decide (N.h.t < 1073741824) && inL N.id vo) = true → S = upN N d ∧ L = asks N.id (N.h.t + 1) (lastJ N.h.l) ((termJ N.h.l (lastJ N.h.l)).getD 0) vo ∧ Wn = winsL vo [N.id]) := fun e2 => by
    have hc : standC N = true := by unfold standC; rw [hzr, hvo, e2]; rfl
    rw [← hS, ← hL, ← hWn]
    unfold standN standL standW
    rw [hzr, hc, hvo]
    exact ⟨rfl, rfl, rfl⟩
  obtain ⟨hj, hl0, ht0, ht1, hid0, hid1⟩ := right_n hzr
  have hlu : Hid (N.h.t < 1073741824 → laterN (timN N d) (N.h.t + 1) = ⟨N.id, ⟨N.h.t + 1, 0, N.h.l, N.h.s, N.h.vs⟩, 0, 0, min (max d 0) 1048576, N.commit, [], []⟩ ∧ laterA (timN N d) (N.h.t + 1) a = ⟨a.R, a.V, ⟨none, 0, 0⟩, ⟨none, 0, 0⟩⟩) := fun h => later_up d hzr h
  have hto := hid_mk (tim_ok hN d)
  have hvt : votersN (timN N d) = vo := hvo
  have hVT := fun (w : World) {B : Nat} => NVoters_any (timN N d) a w (B := B)
  rw [hvt] at hVT
  rw [hS, hL, hWn]
  clear hS hL hWn hvt
  have hN0 := hN
  obtain ⟨hr, hrc, hrb, hi, hvc, hvb, _, _, _, _, _, _, _⟩ := hN
  have hLT := fun (w : World) => RLater_any (timN N d) a (N.h.t + 1) w (tim_right d hzr)
  have hEN := fun (w : World) (g : Slc) {B : Nat} => REnd_any (upN N d) ⟨a.R, a.V, g, ⟨none, 0, 0⟩⟩ w (B := B)
  have hrn200 : a.R.n ≤ 200 := by
    have := (right_bounds hj).2.2.2.2.1
    rw [← hr.len]
    exact this
  have hm7 : a.V.n ≤ 7 := by
    have := (right_len hl0).2
    rw [← hi.len]
    exact this
  replace hj := hid_mk hj
  replace hl0 := hid_mk hl0
  clear hzr
  obtain ⟨id, ⟨t, v, ⟨base, bt, rs⟩, s, vs⟩, role, lead, timer, commit, got, ps⟩ := N
  obtain ⟨⟨RA, n, Rc⟩, ⟨VA, m, Vc⟩, ⟨GA, gn, Gc⟩, ⟨PA, pn, Pc⟩⟩ := a
  unfold votersN at hvo
  unfold timN at hno2 hlu hto hLT hVT
  unfold upN at hyes hEN
  unfold nodeV at hLT hEN hVT ⊢
  dsimp only at hr hrc hrb hi hvc hvb hno2 hyes hlu hto hLT hEN hVT hvo hj hl0 ht0 ht1 hid0 hid1 hrn200 hm7 ⊢
  replace hvo := hid_mk hvo
  have hX := hid_mk ((Blk.new w 30 #[.int .i64 id, .int .i64 t, .int .i64 v, .int .i64 base, .int .i64 bt, .slice RA n Rc, .string s, .slice VA m Vc, .int .i64 role, .int .i64 lead, .int .i64 (min (max d 0) 1048576), .int .i64 commit, .slice GA gn Gc, .slice PA pn Pc]).alloc (.cells #[.int .i64 0, .int .i64 0, .int .i64 0, .int .i64 0, .int .i64 0, .slice none 0 0, .string ⟨#[]⟩, .slice none 0 0, .int .i64 0, .int .i64 0, .int .i64 0, .int .i64 0, .slice none 0 0, .slice none 0 0] 30))
  have hY : Hid (Blk ((w.alloc (.cells #[.int .i64 id, .int .i64 t, .int .i64 v, .int .i64 base, .int .i64 bt, .slice RA n Rc, .string s, .slice VA m Vc, .int .i64 role, .int .i64 lead, .int .i64 (min (max d 0) 1048576), .int .i64 commit, .slice GA gn Gc, .slice PA pn Pc] 30)).alloc (.cells #[.int .i64 0, .int .i64 0, .int .i64 0, .int .i64 0, .int .i64 0, .slice none 0 0, .string ⟨#[]⟩, .slice none 0 0, .int .i64 0, .int .i64 0, .int .i64 0, .int .i64 0, .slice none 0 0, .slice none 0 0] 30)) (w.heap.size + 1) 30 #[.int .i64 0, .int .i64 0, .int .i64 0, .int .i64 0, .int .i64 0, .slice none 0 0, .string ⟨#[]⟩, .slice none 0 0, .int .i64 0, .int .i64 0, .int .i64 0, .int .i64 0, .slice none 0 0, .slice none 0 0]) := Blk.new_ (by simp)
  refine calls_of_wpQ Tryz.func108 rfl ?_
  intro Q hQ
  simp only [Tryz.ntmps108, List.size_toArray, List.length_cons, List.length_nil, Nat.reduceAdd, Nat.reduceSub, Array.replicate_succ, Array.replicate_zero, List.push_toArray, List.append_toArray, List.nil_append, List.cons_append]
  go_wp2_with (go_at_call 106; refine (Draw_any d _).mono ?_; rintro e w' ⟨rfl, rfl⟩)
  refine (hVT _ (B := B) (hto.out.to (by go_grown)) ⟨by omega, by omega⟩).mono ?_
  rintro e w3 ⟨VA2, vn, vc, rfl, hvI, hvn, hb1⟩
  have q3 := (after (w := w) hb1 (by go_grown)).1
  replace hX := hid_mk (hX.out.keep (after hb1 (by go_grown)).1)
  replace hY := hid_mk (hY.out.keep (after hb1 (by go_grown)).1)
  clear hb1
  obtain ⟨xl, x0, x1, x2, x3, x4, x5, x6, x7, x8, x9, x10, x11, x12, x13, xf0, xf1, xf2, xf3, xf4, xf5, xf6, xf7, xf8, xf9, xf10, xf11, xf12, xf13⟩ := blk14f hX.out
  obtain ⟨yl, y0, y1, y2, y3, y4, y5, y6, y7, y8, y9, y10, y11, y12, y13, yf0, yf1, yf2, yf3, yf4, yf5, yf6, yf7, yf8, yf9, yf10, yf11, yf12, yf13⟩ := blk14f hY.out
  replace hvI := hid_mk hvI
  have hvl := hid_mk hvI.out.len
  have hvr : Hid (rightL vo = true) := by
    have := of_right base rs hl0.out
    rw [hvo.out] at this
    exact this
  obtain ⟨vo', hvo'⟩ : ∃ x, vo = x := ⟨_, rfl⟩
  subst hvo'
  by_cases hlt : t < 1073741824
  case neg =>
    have hge : (t == 1073741824) = true := by simp; omega
    have hn := hid_mk (hno2.out (by simp [hlt]))
    go_wp2
    clear xl x0 x1 x2 x3 x4 x5 x6 x7 x8 x9 x10 x11 x12 x13 xf0 xf1 xf2 xf3 xf4 xf5 xf6 xf7 xf8 xf9 xf10 xf11 xf12 xf13
    clear yl y0 y1 y2 y3 y4 y5 y6 y7 y8 y9 y10 y11 y12 y13 yf0 yf1 yf2 yf3 yf4 yf5 yf6 yf7 yf8 yf9 yf10 yf11 yf12 yf13
    have kfin := set14_blk hY.out (.int .i64 id) (.int .i64 t) (.int .i64 v) (.int .i64 base) (.int .i64 bt) (.slice RA n Rc) (.string s) (.slice VA m Vc) (.int .i64 role) (.int .i64 lead) (.int .i64 (min (max d 0) 1048576)) (.int .i64 commit) (.slice GA gn Gc) (.slice PA pn Pc)
    unfold set14 at kfin
    obtain ⟨_, r0, r1, r2, r3, r4, r5, r6, r7, r8, r9, r10, r11, r12, r13⟩ := blk14c kfin
    refine ends_ret hQ (v := .tuple #[.agg #[.int .i64 id, .int .i64 t, .int .i64 v, .int .i64 base, .int .i64 bt, .slice RA n Rc, .string s, .slice VA m Vc, .int .i64 role, .int .i64 lead, .int .i64 (min (max d 0) 1048576), .int .i64 commit, .slice GA gn Gc, .slice PA pn Pc], .slice none 0 0, .bool false]) (by simp [results, Tryz.results108, go_sem, r0, r1, r2, r3, r4, r5, r6, r7, r8, r9, r10, r11, r12, r13]) rfl ?_
    exact ⟨⟨⟨⟨RA, n, Rc⟩, ⟨VA, m, Vc⟩, ⟨GA, gn, Gc⟩, ⟨PA, pn, Pc⟩⟩, none, 0, 0, by rw [hn.out.1, hn.out.2.2]; rfl, by rw [hn.out.1]; exact hto.out.to (set14_below (.int .i64 id) (.int .i64 t) (.int .i64 v) (.int .i64 base) (.int .i64 bt) (.slice RA n Rc) (.string s) (.slice VA m Vc) (.int .i64 role) (.int .i64 lead) (.int .i64 (min (max d 0) 1048576)) (.int .i64 commit) (.slice GA gn Gc) (.slice PA pn Pc) q3 (by omega : w.heap.size ≤ w.heap.size + 1)), by rw [hn.out.2.1]; exact mgs_nil, Nat.le_refl _, by rw [hn.out.2.1]; exact World.ownsRow_nil _ _ _ _⟩, set14_below (.int .i64 id) (.int .i64 t) (.int .i64 v) (.int .i64 base) (.int .i64 bt) (.slice RA n Rc) (.string s) (.slice VA m Vc) (.int .i64 role) (.int .i64 lead) (.int .i64 (min (max d 0) 1048576)) (.int .i64 commit) (.slice GA gn Gc) (.slice PA pn Pc) q3 (by omega : w.heap.size ≤ w.heap.size + 1)⟩
  have hlt1 : (t == 1073741824) = false := by simp; omega
  go_wp2_with fail
  refine (In_any VA2 vn vc vo id _ B hvn hvI.out).mono ?_
  obtain ⟨zi, hzi⟩ : ∃ z, inL id vo = z := ⟨_, rfl⟩
  rw [hzi]
  rintro e w' ⟨rfl, rfl⟩
  cases zi
  case false =>
    have hn := hid_mk (hno2.out (by simp [hzi]))
    replace hzi := hid_mk hzi
    go_wp2
    clear xl x0 x1 x2 x3 x4 x5 x6 x7 x8 x9 x10 x11 x12 x13 xf0 xf1 xf2 xf3 xf4 xf5 xf6 xf7 xf8 xf9 xf10 xf11 xf12 xf13
    clear yl y0 y1 y2 y3 y4 y5 y6 y7 y8 y9 y10 y11 y12 y13 yf0 yf1 yf2 yf3 yf4 yf5 yf6 yf7 yf8 yf9 yf10 yf11 yf12 yf13
    have kfin := set14_blk hY.out (.int .i64 id) (.int .i64 t) (.int .i64 v) (.int .i64 base) (.int .i64 bt) (.slice RA n Rc) (.string s) (.slice VA m Vc) (.int .i64 role) (.int .i64 lead) (.int .i64 (min (max d 0) 1048576)) (.int .i64 commit) (.slice GA gn Gc) (.slice PA pn Pc)
    unfold set14 at kfin
    obtain ⟨_, r0, r1, r2, r3, r4, r5, r6, r7, r8, r9, r10, r11, r12, r13⟩ := blk14c kfin
    refine ends_ret hQ (v := .tuple #[.agg #[.int .i64 id, .int .i64 t, .int .i64 v, .int .i64 base, .int .i64 bt, .slice RA n Rc, .string s, .slice VA m Vc, .int .i64 role, .int .i64 lead, .int .i64 (min (max d 0) 1048576), .int .i64 commit, .slice GA gn Gc, .slice PA pn Pc], .slice none 0 0, .bool false]) (by simp [results, Tryz.results108, go_sem, r0, r1, r2, r3, r4, r5, r6, r7, r8, r9, r10, r11, r12, r13]) rfl ?_
    exact ⟨⟨⟨⟨RA, n, Rc⟩, ⟨VA, m, Vc⟩, ⟨GA, gn, Gc⟩, ⟨PA, pn, Pc⟩⟩, none, 0, 0, by rw [hn.out.1, hn.out.2.2]; rfl, by rw [hn.out.1]; exact hto.out.to (set14_below (.int .i64 id) (.int .i64 t) (.int .i64 v) (.int .i64 base) (.int .i64 bt) (.slice RA n Rc) (.string s) (.slice VA m Vc) (.int .i64 role) (.int .i64 lead) (.int .i64 (min (max d 0) 1048576)) (.int .i64 commit) (.slice GA gn Gc) (.slice PA pn Pc) q3 (by omega : w.heap.size ≤ w.heap.size + 1)), by rw [hn.out.2.1]; exact mgs_nil, Nat.le_refl _, by rw [hn.out.2.1]; exact World.ownsRow_nil _ _ _ _⟩, set14_below (.int .i64 id) (.int .i64 t) (.int .i64 v) (.int .i64 base) (.int .i64 bt) (.slice RA n Rc) (.string s) (.slice VA m Vc) (.int .i64 role) (.int .i64 lead) (.int .i64 (min (max d 0) 1048576)) (.int .i64 commit) (.slice GA gn Gc) (.slice PA pn Pc) q3 (by omega : w.heap.size ≤ w.heap.size + 1)⟩
  have hy := hid_mk (hyes.out (by simp [hzi, hlt]))
  replace hzi := hid_mk hzi
  have hl2 := hid_mk (hlu.out hlt)
  have hw64 : IntKind.i64.wrap (t + 1) = t + 1 := IntWalk.i64_in _ (by omega)
  clear hno2 hyes hlu hVT
  go_wp2_with fail
  refine (hLT _).mono ?_
  rw [hl2.out.1, hl2.out.2]
  rintro e w4 ⟨rfl, hb1⟩
  dsimp only
  clear xl x0 x1 x2 x3 x4 x5 x6 x7 x8 x9 x10 x11 x12 x13 xf0 xf1 xf2 xf3 xf4 xf5 xf6 xf7 xf8 xf9 xf10 xf11 xf12 xf13
  clear yl y0 y1 y2 y3 y4 y5 y6 y7 y8 y9 y10 y11 y12 y13 yf0 yf1 yf2 yf3 yf4 yf5 yf6 yf7 yf8 yf9 yf10 yf11 yf12 yf13
  replace hvI := hid_mk (hvI.out.to (after hb1 (by go_grown)).1)
  have q4 := (after (w := w) hb1 (by go_grown)).1
  replace hX := hid_mk (hX.out.keep (after hb1 (by go_grown)).1)
  replace hY := hid_mk (hY.out.keep (after hb1 (by go_grown)).1)
  clear hb1
  obtain ⟨xl, x0, x1, x2, x3, x4, x5, x6, x7, x8, x9, x10, x11, x12, x13, xf0, xf1, xf2, xf3, xf4, xf5, xf6, xf7, xf8, xf9, xf10, xf11, xf12, xf13⟩ := blk14f hX.out
  obtain ⟨yl, y0, y1, y2, y3, y4, y5, y6, y7, y8, y9, y10, y11, y12, y13, yf0, yf1, yf2, yf3, yf4, yf5, yf6, yf7, yf8, yf9, yf10, yf11, yf12, yf13⟩ := blk14f hY.out
  go_upto_region 6 with fail
  have hX5 := set14_blk hX.out (.int .i64 id) (.int .i64 (t + 1)) (.int .i64 0) (.int .i64 base) (.int .i64 bt) (.slice RA n Rc) (.string s) (.slice VA m Vc) (.int .i64 0) (.int .i64 0) (.int .i64 (min (max d 0) 1048576)) (.int .i64 commit) (.slice none 0 0) (.slice none 0 0)
  have hY5 := set14_farS hY.out (by omega : w.heap.size + 1 ≠ w.heap.size) (.int .i64 id) (.int .i64 (t + 1)) (.int .i64 0) (.int .i64 base) (.int .i64 bt) (.slice RA n Rc) (.string s) (.slice VA m Vc) (.int .i64 0) (.int .i64 0) (.int .i64 (min (max d 0) 1048576)) (.int .i64 commit) (.slice none 0 0) (.slice none 0 0)
  have q5 := set14_below (.int .i64 id) (.int .i64 (t + 1)) (.int .i64 0) (.int .i64 base) (.int .i64 bt) (.slice RA n Rc) (.string s) (.slice VA m Vc) (.int .i64 0) (.int .i64 0) (.int .i64 (min (max d 0) 1048576)) (.int .i64 commit) (.slice none 0 0) (.slice none 0 0) q4 (Nat.le_refl _)
  have hv5 : Ints _ B VA2 vn vo := set14_reads hX.out (.int .i64 id) (.int .i64 (t + 1)) (.int .i64 0) (.int .i64 base) (.int .i64 bt) (.slice RA n Rc) (.string s) (.slice VA m Vc) (.int .i64 0) (.int .i64 0) (.int .i64 (min (max d 0) 1048576)) (.int .i64 commit) (.slice none 0 0) (.slice none 0 0) hBw (by decide) hvI.out
  obtain ⟨w5, hw5⟩ : ∃ x, set14 w4 w.heap.size (.int .i64 id) (.int .i64 (t + 1)) (.int .i64 0) (.int .i64 base) (.int .i64 bt) (.slice RA n Rc) (.string s) (.slice VA m Vc) (.int .i64 0) (.int .i64 0) (.int .i64 (min (max d 0) 1048576)) (.int .i64 commit) (.slice none 0 0) (.slice none 0 0) = x := ⟨_, rfl⟩
  rw [hw5] at hX5 hY5 q5 hv5
  unfold set14 at hw5
  rw [hw5]
  clear hw5
  clear xl x0 x1 x2 x3 x4 x5 x6 x7 x8 x9 x10 x11 x12 x13 xf0 xf1 xf2 xf3 xf4 xf5 xf6 xf7 xf8 xf9 xf10 xf11 xf12 xf13
  clear yl y0 y1 y2 y3 y4 y5 y6 y7 y8 y9 y10 y11 y12 y13 yf0 yf1 yf2 yf3 yf4 yf5 yf6 yf7 yf8 yf9 yf10 yf11 yf12 yf13
  replace hX := hid_mk hX5
  replace hY := hid_mk hY5
  replace hvI := hid_mk hv5
  clear hX5 hY5 hv5 q3 q4
  obtain ⟨gG, hgG⟩ : ∃ g, w5.heap.size = g := ⟨_, rfl⟩
  have z5 : w.heap.size ≤ gG := by rw [← hgG]; exact q5.size
  have z5' : w.heap.size + 1 < gG := by rw [← hgG]; exact hY.out.lt
  have hX6 : Blk ((((w5.setCell ⟨w.heap.size, 2, none⟩ (.int .i64 id)).setCell ⟨w.heap.size, 8, none⟩ (.int .i64 1)).setCell ⟨w.heap.size, 12, none⟩ (.slice (some ⟨gG, 0, none⟩) 1 1)).alloc (.cells #[.int .i64 id] 3)) w.heap.size 30 #[.int .i64 id, .int .i64 (t + 1), .int .i64 id, .int .i64 base, .int .i64 bt, .slice RA n Rc, .string s, .slice VA m Vc, .int .i64 1, .int .i64 0, .int .i64 (min (max d 0) 1048576), .int .i64 commit, .slice (some ⟨gG, 0, none⟩) 1 1, .slice none 0 0] := (((hX.out.set_ 2 _).set_ 8 _).set_ 12 _).alloc _
  have hY6 := (((hY.out.far (p := ⟨w.heap.size, 2, none⟩) (by simp) (.int .i64 id)).far (p := ⟨w.heap.size, 8, none⟩) (by simp) (.int .i64 1)).far (p := ⟨w.heap.size, 12, none⟩) (by simp) (.slice (some ⟨gG, 0, none⟩) 1 1)).alloc (.cells #[.int .i64 id] 3)
  have hG6 : Blk ((((w5.setCell ⟨w.heap.size, 2, none⟩ (.int .i64 id)).setCell ⟨w.heap.size, 8, none⟩ (.int .i64 1)).setCell ⟨w.heap.size, 12, none⟩ (.slice (some ⟨gG, 0, none⟩) 1 1)).alloc (.cells #[.int .i64 id] 3)) gG 3 #[.int .i64 id] := by rw [← hgG]; exact Blk.new_ (by simp)
  have hvA : Ints _ B VA2 vn vo := Reads.far hvI.out hX.out hBw (by decide) 2 (.int .i64 id)
  have hvB : Ints _ B VA2 vn vo := Reads.far hvA (hX.out.set_ 2 (.int .i64 id)) hBw (by decide) 8 (.int .i64 1)
  have hvC : Ints _ B VA2 vn vo := Reads.far hvB ((hX.out.set_ 2 (.int .i64 id)).set_ 8 (.int .i64 1)) hBw (by decide) 12 (.slice (some ⟨gG, 0, none⟩) 1 1)
  have hvD : Ints _ B VA2 vn vo := hvC.to ((Below.refl _ _).alloc (Nat.le_refl _) (.cells #[.int .i64 id] 3))
  have q5a := ((q5.setCell (p := ⟨w.heap.size, 2, none⟩) (Nat.le_refl _) (.int .i64 id)).setCell (p := ⟨w.heap.size, 8, none⟩) (Nat.le_refl _) (.int .i64 1)).setCell (p := ⟨w.heap.size, 12, none⟩) (Nat.le_refl _) (.slice (some ⟨gG, 0, none⟩) 1 1)
  have q6 := q5a.alloc q5a.size (.cells #[.int .i64 id] 3)
  obtain ⟨w6, hw6⟩ : ∃ x, (((w5.setCell ⟨w.heap.size, 2, none⟩ (.int .i64 id)).setCell ⟨w.heap.size, 8, none⟩ (.int .i64 1)).setCell ⟨w.heap.size, 12, none⟩ (.slice (some ⟨gG, 0, none⟩) 1 1)).alloc (.cells #[.int .i64 id] 3) = x := ⟨_, rfl⟩
  rw [hw6] at hX6 hY6 hG6 hvD q6
  replace hw6 := hid_mk hw6
  clear hvA hvB hvC q5a
  replace hgG := hid_mk hgG
  obtain ⟨xl, x0, x1, x2, x3, x4, x5, x6, x7, x8, x9, x10, x11, x12, x13, xf0, xf1, xf2, xf3, xf4, xf5, xf6, xf7, xf8, xf9, xf10, xf11, xf12, xf13⟩ := blk14f hX.out
  go_upto_region 9 with fail
  rw [hgG.out, hw6.out]
  clear xl x0 x1 x2 x3 x4 x5 x6 x7 x8 x9 x10 x11 x12 x13 xf0 xf1 xf2 xf3 xf4 xf5 xf6 xf7 xf8 xf9 xf10 xf11 xf12 xf13
  clear hw6
  replace hX := hid_mk hX6
  replace hY := hid_mk hY6
  have hG := hid_mk hG6
  replace hvI := hid_mk hvD
  clear hX6 hY6 hG6 hvD q5
  obtain ⟨xl, x0, x1, x2, x3, x4, x5, x6, x7, x8, x9, x10, x11, x12, x13, xf0, xf1, xf2, xf3, xf4, xf5, xf6, xf7, xf8, xf9, xf10, xf11, xf12, xf13⟩ := blk14f hX.out
  go_wp2_with fail
  refine (hEN _ ⟨some ⟨gG, 0, none⟩, 1, 1⟩ (B := B) ⟨hN0.recs.to (by go_grown), hN0.rc, hN0.rb, hN0.vs.to (by go_grown), hN0.vc, hN0.vb, hN0.sb, (ints_one hG.out).more (Nat.zero_le _), Nat.le_refl _, by dsimp only; omega, Reads.none_, Nat.le_refl _, by dsimp only; omega⟩ hj.out).mono ?_
  obtain ⟨la, hla⟩ : ∃ x, lastJ ⟨base, bt, rs⟩ = x := ⟨_, rfl⟩
  rw [hla] at hy ⊢
  obtain ⟨lt, hlt'⟩ : ∃ x, (termJ ⟨base, bt, rs⟩ la).getD 0 = x := ⟨_, rfl⟩
  rw [hlt'] at hy ⊢
  replace hla := hid_mk hla
  replace hlt' := hid_mk hlt'
  rintro e w7 ⟨rfl, hb1⟩
  have q7 := (after (w := w) hb1 (by go_grown)).1
  have z7 := q7.size
  replace hX := hid_mk (hX.out.keep hb1)
  replace hY := hid_mk (hY.out.keep hb1)
  replace hG := hid_mk (hG.out.keep hb1)
  replace hvI := hid_mk (hvI.out.to hb1)
  clear hb1 q6
  clear xl x0 x1 x2 x3 x4 x5 x6 x7 x8 x9 x10 x11 x12 x13 xf0 xf1 xf2 xf3 xf4 xf5 xf6 xf7 xf8 xf9 xf10 xf11 xf12 xf13
  replace hX := hid_mk (hX.out.alloc (.cells #[] 32))
  replace hY := hid_mk (hY.out.alloc (.cells #[] 32))
  replace hG := hid_mk (hG.out.alloc (.cells #[] 32))
  replace hvI : Hid (Ints (w7.alloc (.cells #[] 32)) B VA2 vn vo) := hvI.out.to (by go_grown)
  have q8 : Below w.heap.size w (w7.alloc (.cells #[] 32)) := by go_grown
  obtain ⟨i0, hi0, hz0, hz1, hz2⟩ := info_parts msgInfo
  have own0 := World.ownsRow_lit (base := w.heap.size) (e := 32) (size := 11) w7 #[] 0 q7.size (by unfold maxLen; omega) (by simp)
  have own0' : Hid ((w7.alloc (.cells #[] 32)).ownsRow w.heap.size 32 11 (.slice (some ⟨w7.heap.size, 0, none⟩) 0 0) (asks id (t + 1) la lt (vo.take 0)).length (mgsL (pairM (asks id (t + 1) la lt (vo.take 0))))) := hid_mk (by simpa [asks, pairM, mgsL] using own0)
  clear own0
  go_wp2
  go_loopw [10, 53] (fun o i wr => ∃ (k : Nat), i = .int .i64 k ∧ k ≤ vn ∧ Below w.heap.size w wr ∧ Hid (wr.ownsRow w.heap.size 32 11 o (asks id (t + 1) la lt (vo.take k)).length (mgsL (pairM (asks id (t + 1) la lt (vo.take k))))) ∧ Hid (Blk wr w.heap.size 30 #[.int .i64 id, .int .i64 (t + 1), .int .i64 id, .int .i64 base, .int .i64 bt, .slice RA n Rc, .string s, .slice VA m Vc, .int .i64 1, .int .i64 0, .int .i64 (min (max d 0) 1048576), .int .i64 commit, .slice (some ⟨gG, 0, none⟩) 1 1, .slice none 0 0]) ∧ Hid (Blk wr (w.heap.size + 1) 30 #[.int .i64 0, .int .i64 0, .int .i64 0, .int .i64 0, .int .i64 0, .slice none 0 0, .string ⟨#[]⟩, .slice none 0 0, .int .i64 0, .int .i64 0, .int .i64 0, .int .i64 0, .slice none 0 0, .slice none 0 0]) ∧ Hid (Blk wr gG 3 #[.int .i64 id]) ∧ Hid (Ints wr B VA2 vn vo)) (fun _ i _ => vn - (intOf i).toNat)
  case atStart => exact ⟨0, rfl, Nat.zero_le _, q8, own0', hX, hY, hG, hvI⟩
  case round =>
    clear hX hY hG hvI own0' q8 q7
    obtain ⟨k, rfl, hk, hb, hown, hX, hY, hG, hvI⟩ := hrel
    have zr := hb.size
    have hv7 : vn ≤ 140737488355328 := hvn
    have hal := hid_mk (asks_len id (t + 1) la lt (vo.take k))
    by_cases hkv : k < vn
    · obtain ⟨bv, ov, x, rfl, hbv, hdx, cx⟩ := hvI.out.at_ hkv
      have x0 := hX.out.cell 0
      have x1 := hX.out.cell 1
      have xl := hX.out.lt
      change _ = some (Value.int .i64 id) at x0
      change _ = some (Value.int .i64 (t + 1)) at x1
      by_cases hx : x = id
      · have hstep : Hid (asks id (t + 1) la lt (vo.take (k + 1)) = asks id (t + 1) la lt (vo.take k)) := asks_no hdx.out hx
        subst hx
        go_wp2
        go_roundw
        case rel => exact ⟨k + 1, by go_num, by omega, hb, by rw [hstep.out]; exact hown, hX, hY, hG, hvI⟩
        case measure => simp [intOf]; omega
      · have hstep : Hid (asks id (t + 1) la lt (vo.take (k + 1)) = asks id (t + 1) la lt (vo.take k) ++ [askM id (t + 1) la lt x]) := asks_yes hdx.out hx
        have hxb : (x != id) = true := by simpa using hx
        replace hx := hid_mk hx
        have hlen7 : Hid ((asks id (t + 1) la lt (vo.take k)).length ≤ 7) := by
          have h7 := (right_len hvr.out).2
          have h8 := hal.out
          rw [List.length_take] at h8
          exact Nat.le_trans h8 (Nat.le_trans (Nat.min_le_right _ _) h7)
        obtain ⟨na, hna⟩ : ∃ q, (asks id (t + 1) la lt (vo.take k)).length = q := ⟨_, rfl⟩
        obtain ⟨Ao, co, rfl, ho1, ho2⟩ := own_slice hown.out
        rw [hna] at hown hlen7 ho1 ⊢
        have hna7 : na ≤ 7 := hlen7.out
        replace hna := hid_mk hna
        have hnB : Blk (wr.alloc (.cells #[.int .i64 1, .int .i64 id, .int .i64 x, .int .i64 (t + 1), .bool false, .int .i64 la, .int .i64 lt, .slice none 0 0, .int .i64 0, .string ⟨#[]⟩, .slice none 0 0] 32)) wr.heap.size 32 #[.int .i64 1, .int .i64 id, .int .i64 x, .int .i64 (t + 1), .bool false, .int .i64 la, .int .i64 lt, .slice none 0 0, .int .i64 0, .string ⟨#[]⟩, .slice none 0 0] := Blk.new _ _ _
        have hnew := hid_mk (mgs_one (B := 0) (M := askM id (t + 1) la lt x) hnB rfl rfl rfl).1
        have hown' := hid_mk (hown.out.alloc (.cells #[.int .i64 1, .int .i64 id, .int .i64 x, .int .i64 (t + 1), .bool false, .int .i64 la, .int .i64 lt, .slice none 0 0, .int .i64 0, .string ⟨#[]⟩, .slice none 0 0] 32))
        go_wp2_with (at_builtin; refine wpList_append_any _ rfl (.tmp 61) (.tmp 71) _ rfl w.heap.size 32 i0 _ 11 128 Tryz.underlying34 hi0 hz0 hz1 hz2 rfl (by omega) _ na _ rfl hown'.out 0 (some ⟨wr.heap.size, 0, none⟩) 1 1 _ rfl hnew.out (msg_one _) (by simp only [maxLen]; omega) (by omega) (by simp; omega) ?_; intro v1 wa hown2 hga hat2)
        have qa : Below w.heap.size w wa := grown_below (by go_grown) hga (fun k hk => (World.ownsRow.lt hown'.out k hk).1)
        have hXa := hid_mk (Blk.grown (hX.out.alloc _) hga (own_ne hown'.out (hX.out.alloc _)))
        have hYa := hid_mk (Blk.grown (hY.out.alloc _) hga (own_ne hown'.out (hY.out.alloc _)))
        have hGa := hid_mk (Blk.grown (hG.out.alloc _) hga (own_ne hown'.out (hG.out.alloc _)))
        have hva : Hid (Ints wa B (some ⟨bv, ov, none⟩) vn vo) := Reads.kr (hvI.out.to ((Below.refl _ _).alloc (Nat.le_refl _) _)) (.inl rfl) ((KR.own hown'.out hga).low hBw)
        have hrow : Hid (wa.ownsRow w.heap.size 32 11 v1 (asks id (t + 1) la lt (vo.take (k + 1))).length (mgsL (pairM (asks id (t + 1) la lt (vo.take (k + 1)))))) := by
          rw [hstep.out, List.length_append, hna.out]
          unfold pairM
          rw [List.map_append]
          unfold mgsL
          rw [List.flatMap_append]
          exact hown2
        clear hown2 hga hat2
        go_roundw
        case rel => exact ⟨k + 1, by go_num, by omega, qa, hrow, hXa, hYa, hGa, hva⟩
        case measure => simp [intOf]; omega
    · have hkn : Hid (asks id (t + 1) la lt (vo.take k) = asks id (t + 1) la lt vo) := by
        rw [Hid, List.take_of_length_le (by rw [hvl.out]; omega)]
      obtain ⟨Ao, co, rfl, ho1, ho2⟩ := own_slice hown.out
      have hown2 : Hid (wr.ownsRow w.heap.size 32 11 (.slice Ao (asks id (t + 1) la lt vo).length co) (asks id (t + 1) la lt vo).length (mgsL (pairM (asks id (t + 1) la lt vo)))) := by
        have := hown.out
        rw [hkn.out] at this
        exact this
      rw [hkn.out] at ho1 ⊢
      clear hown hkn hal
      obtain ⟨na, hna⟩ : ∃ q, (asks id (t + 1) la lt vo).length = q := ⟨_, rfl⟩
      rw [hna] at hown2 ho1 ⊢
      replace hna := hid_mk hna
      have hGi : Hid (Ints wr B (some ⟨gG, 0, none⟩) 1 [id]) := (ints_one hG.out).more (Nat.zero_le _)
      obtain ⟨zw, hzw⟩ : ∃ z, winsL vo [id] = z := ⟨_, rfl⟩
      replace hzw := hid_mk hzw
      go_wp2_with fail
      refine wp_region_T' (fun w' => w'.cell? ⟨w.heap.size, 0, none⟩ = some (.int .i64 id) ∧ w'.cell? ⟨w.heap.size, 1, none⟩ = some (.int .i64 (t + 1)) ∧ w'.cell? ⟨w.heap.size, 2, none⟩ = some (.int .i64 id) ∧ w'.cell? ⟨w.heap.size, 3, none⟩ = some (.int .i64 base) ∧ w'.cell? ⟨w.heap.size, 4, none⟩ = some (.int .i64 bt) ∧ w'.cell? ⟨w.heap.size, 5, none⟩ = some (.slice RA n Rc) ∧ w'.cell? ⟨w.heap.size, 6, none⟩ = some (.string s) ∧ w'.cell? ⟨w.heap.size, 7, none⟩ = some (.slice VA m Vc) ∧ w'.cell? ⟨w.heap.size, 8, none⟩ = some (.int .i64 1) ∧ w'.cell? ⟨w.heap.size, 9, none⟩ = some (.int .i64 0) ∧ w'.cell? ⟨w.heap.size, 10, none⟩ = some (.int .i64 (min (max d 0) 1048576)) ∧ w'.cell? ⟨w.heap.size, 11, none⟩ = some (.int .i64 commit) ∧ w'.cell? ⟨w.heap.size, 12, none⟩ = some (.slice (some ⟨gG, 0, none⟩) 1 1) ∧ w'.cell? ⟨w.heap.size, 13, none⟩ = some (.slice none 0 0)) (fun j => decide (j < 9)) 9 (by kernel_rfl) (by kernel_rfl) (by exact (blk14c hX.out).2) (fun hS0 => ?_)
      refine wpAnyT_take (i := 0) rfl (by kernel_rfl) (by kernel_rfl) (by kernel_rfl) rfl (by kernel_rfl) (fun _ _ _ h => h) (by kernel_rfl) (fun w' hS => (by obtain ⟨s0, s1, s2, s3, s4, s5, s6, s7, s8, s9, s10, s11, s12, s13⟩ := hS; go_simp; try with_reducible rfl)) hS0 ?_
      simp only [Act.put]
      refine wpAnyT_take (i := 1) rfl (by kernel_rfl) (by kernel_rfl) (by kernel_rfl) rfl (by kernel_rfl) (fun _ _ _ h => h) (by kernel_rfl) (fun w' hS => (by obtain ⟨s0, s1, s2, s3, s4, s5, s6, s7, s8, s9, s10, s11, s12, s13⟩ := hS; go_simp; try with_reducible rfl)) hS0 ?_
      simp only [Act.put]
      refine wpAnyT_take (i := 2) rfl (by kernel_rfl) (by kernel_rfl) (by kernel_rfl) rfl (by kernel_rfl) (fun _ _ _ h => h) (by kernel_rfl) (fun w' hS => (by obtain ⟨s0, s1, s2, s3, s4, s5, s6, s7, s8, s9, s10, s11, s12, s13⟩ := hS; go_simp; try with_reducible rfl)) hS0 ?_
      simp only [Act.put]
      refine wpAnyT_take (i := 3) rfl (by kernel_rfl) (by kernel_rfl) (by kernel_rfl) rfl (by kernel_rfl) (fun _ _ _ h => h) (by kernel_rfl) (fun w' hS => (by obtain ⟨s0, s1, s2, s3, s4, s5, s6, s7, s8, s9, s10, s11, s12, s13⟩ := hS; go_simp; try with_reducible rfl)) hS0 ?_
      simp only [Act.put]
      refine wpAnyT_take (i := 4) rfl (by kernel_rfl) (by kernel_rfl) (by kernel_rfl) rfl (by kernel_rfl) (fun _ _ _ h => h) (by kernel_rfl) (fun w' hS => (by obtain ⟨s0, s1, s2, s3, s4, s5, s6, s7, s8, s9, s10, s11, s12, s13⟩ := hS; go_simp; try with_reducible rfl)) hS0 ?_
      simp only [Act.put]
      refine wpAnyT_one (i := 5) (by kernel_rfl) rfl (fun K hK => ?_)
      go_simp
      refine (refWins_any VA2 vn vc vo (some ⟨gG, 0, none⟩) 1 1 [id] _ B hv7 (by omega) (hvI.out.to (by go_grown)) (hGi.out.to (by go_grown))).mono ?_
      rw [hzw.out]
      rintro e wb ⟨rfl, hww⟩
      have hb1 : Below wr.drew.heap.size wr.drew wb := by rw [← hww]; exact Below.refl _ _
      clear hww
      have qb := (after (w := w) hb1 (by go_grown)).1
      replace hX := hid_mk (hX.out.keep (after hb1 (by go_grown)).1)
      replace hY := hid_mk (hY.out.keep (after hb1 (by go_grown)).1)
      replace hG := hid_mk (hG.out.keep (after hb1 (by go_grown)).1)
      replace hown2 := hid_mk (own_keep hown2.out (after hb1 (by go_grown)).1)
      clear hb1
      refine hK.out _ _ (fun _ => (blk14c hX.out).2) ?_
      clear hK K
      try simp only [Act.put]
      obtain ⟨yl, y0, y1, y2, y3, y4, y5, y6, y7, y8, y9, y10, y11, y12, y13, yf0, yf1, yf2, yf3, yf4, yf5, yf6, yf7, yf8, yf9, yf10, yf11, yf12, yf13⟩ := blk14f hY.out
      refine wpAnyT_one (i := 6) (by kernel_rfl) rfl (fun K hK => ?_)
      go_simp
      clear yl y0 y1 y2 y3 y4 y5 y6 y7 y8 y9 y10 y11 y12 y13 yf0 yf1 yf2 yf3 yf4 yf5 yf6 yf7 yf8 yf9 yf10 yf11 yf12 yf13
      have hown3 := hid_mk (own14 hown2.out hY.out (by decide) (.int .i64 id) (.int .i64 (t + 1)) (.int .i64 id) (.int .i64 base) (.int .i64 bt) (.slice RA n Rc) (.string s) (.slice VA m Vc) (.int .i64 1) (.int .i64 0) (.int .i64 (min (max d 0) 1048576)) (.int .i64 commit) (.slice (some ⟨gG, 0, none⟩) 1 1) (.slice none 0 0))
      replace hX := hid_mk (set14_farS hX.out (by omega : w.heap.size ≠ w.heap.size + 1) (.int .i64 id) (.int .i64 (t + 1)) (.int .i64 id) (.int .i64 base) (.int .i64 bt) (.slice RA n Rc) (.string s) (.slice VA m Vc) (.int .i64 1) (.int .i64 0) (.int .i64 (min (max d 0) 1048576)) (.int .i64 commit) (.slice (some ⟨gG, 0, none⟩) 1 1) (.slice none 0 0))
      replace hG := hid_mk (set14_farS hG.out (by omega : gG ≠ w.heap.size + 1) (.int .i64 id) (.int .i64 (t + 1)) (.int .i64 id) (.int .i64 base) (.int .i64 bt) (.slice RA n Rc) (.string s) (.slice VA m Vc) (.int .i64 1) (.int .i64 0) (.int .i64 (min (max d 0) 1048576)) (.int .i64 commit) (.slice (some ⟨gG, 0, none⟩) 1 1) (.slice none 0 0))
      replace hY := hid_mk (set14_blk hY.out (.int .i64 id) (.int .i64 (t + 1)) (.int .i64 id) (.int .i64 base) (.int .i64 bt) (.slice RA n Rc) (.string s) (.slice VA m Vc) (.int .i64 1) (.int .i64 0) (.int .i64 (min (max d 0) 1048576)) (.int .i64 commit) (.slice (some ⟨gG, 0, none⟩) 1 1) (.slice none 0 0))
      have qz := set14_below (.int .i64 id) (.int .i64 (t + 1)) (.int .i64 id) (.int .i64 base) (.int .i64 bt) (.slice RA n Rc) (.string s) (.slice VA m Vc) (.int .i64 1) (.int .i64 0) (.int .i64 (min (max d 0) 1048576)) (.int .i64 commit) (.slice (some ⟨gG, 0, none⟩) 1 1) (.slice none 0 0) qb (by omega : w.heap.size ≤ w.heap.size + 1)
      obtain ⟨wz, hwz⟩ : ∃ wz, set14 wb (w.heap.size + 1) (.int .i64 id) (.int .i64 (t + 1)) (.int .i64 id) (.int .i64 base) (.int .i64 bt) (.slice RA n Rc) (.string s) (.slice VA m Vc) (.int .i64 1) (.int .i64 0) (.int .i64 (min (max d 0) 1048576)) (.int .i64 commit) (.slice (some ⟨gG, 0, none⟩) 1 1) (.slice none 0 0) = wz := ⟨_, rfl⟩
      rw [hwz] at hX hG hown3 hY qz
      unfold set14 at hwz
      rw [hwz]
      clear hwz hown2
      refine hK.out _ _ (fun _ => (blk14c hX.out).2) ?_
      clear hK K
      try simp only [Act.put]
      refine wpAnyT_one (i := 7) (by kernel_rfl) rfl (fun K hK => ?_)
      go_simp
      refine hK.out _ _ (fun _ => (blk14c hX.out).2) ?_
      clear hK K
      try simp only [Act.put]
      refine wpAnyT_one (i := 8) (by kernel_rfl) rfl (fun K hK => ?_)
      go_simp
      refine hK.out _ _ (fun _ => (blk14c hX.out).2) ?_
      clear hK K
      try simp only [Act.put]
      refine wpAnyT_done (by kernel_rfl) ?_ _
      obtain ⟨_, r0, r1, r2, r3, r4, r5, r6, r7, r8, r9, r10, r11, r12, r13⟩ := blk14c hY.out
      go_wp2
      refine ends_ret hQ (v := .tuple #[.agg #[.int .i64 id, .int .i64 (t + 1), .int .i64 id, .int .i64 base, .int .i64 bt, .slice RA n Rc, .string s, .slice VA m Vc, .int .i64 1, .int .i64 0, .int .i64 (min (max d 0) 1048576), .int .i64 commit, .slice (some ⟨gG, 0, none⟩) 1 1, .slice none 0 0], .slice Ao na co, .bool zw]) (by simp [results, Tryz.results108, go_sem, r0, r1, r2, r3, r4, r5, r6, r7, r8, r9, r10, r11, r12, r13]) rfl ?_
      have hMg : Mgs wz 0 Ao na ((asks id (t + 1) la lt vo).map fun M => (M, nilMA)) := mgs_of_own hown3.out asks_nil
      refine ⟨⟨⟨⟨RA, n, Rc⟩, ⟨VA, m, Vc⟩, ⟨some ⟨gG, 0, none⟩, 1, 1⟩, ⟨none, 0, 0⟩⟩, Ao, na, co, ?_, ?_, ?_, ho1, ?_⟩, qz⟩
      · rw [hy.out.1, hy.out.2.2, hzw.out]; rfl
      · rw [hy.out.1]; exact ⟨hN0.recs.to qz, hN0.rc, hN0.rb, hN0.vs.to qz, hN0.vc, hN0.vb, hN0.sb, (ints_one hG.out).more (Nat.zero_le _), Nat.le_refl _, by dsimp only; omega, Reads.none_, Nat.le_refl _, by dsimp only; omega⟩
      · rw [hy.out.2.1]; exact hMg
      · rw [hy.out.2.1]; exact hown3.out
theorem RStand_any (N : Nd) (a : NdA) (d : Int) (w : World) {B : Nat} (hBw : B ≤ w.heap.size) (hN : NdOk w B N a) (hzr : rightN N = true) :
    Calls Tryz.prog 108 #[nodeV N a, .int .i64 d] w fun e w' => RetS w' B (standN N d) (standL N) (standW N) e w' ∧ Below w.heap.size w w' :=
  (RStandO_any N a d w hBw hN hzr).mono fun _ _ h => ⟨h.1.to, h.2⟩
end Go.Proofs.YtncdjmpdbinanaaGreatDoor
