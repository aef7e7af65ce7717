/-
  WHAT IS PROVED HERE: what the reference's Lead hands back of a node that may be. Conditions: the slices are of at most 2^47 bytes; the library's table stands.
-/
import Derived.Test.YtncdjmpdbinanaaGreatDoorZEld
import Derived.Test.YtncdjmpdbinanaaGreatDoorZGSr
import Derived.Test.YtncdjmpdbinanaaGreatDoorZGRon
import Derived.Test.YtncdjmpdbinanaaGreatDoorZRew
namespace Go.Proofs.YtncdjmpdbinanaaGreatDoor
open Go.RowKit

/-- a row that is read, behind what grows another row -/
theorem reads_grownB {w w' : World} {B : Nat} {e : TypeId} {size n : Nat} {A : Option Addr} {xs : List Value} {row : Option Nat} (h : Reads w B e size A n xs) (hg : w.grownBy w' row) (hr : ∀ k, row = some k → B ≤ k ∧ ∃ t cs fr, w.heap[k]? = some (.cells cs t fr) ∧ t ≠ e) : Reads w' B e size A n xs :=
  ⟨h.1, fun hn => by
    obtain ⟨b, o, ea, hlt, ht, hc⟩ := h.2 hn
    have hne : some b ≠ row := fun e1 => by
      obtain ⟨h1, t, cs, fr, h2, h3⟩ := hr b e1.symm
      rcases ht with ht | ⟨cs', fr', ht⟩
      · omega
      · rw [h2] at ht
        injection ht with ht
        injection ht with _ ht
        exact h3 ht
    have hbk := hg.block b hlt hne
    refine ⟨b, o, ea, Nat.lt_of_lt_of_le hlt hg.size, ?_, fun j u hu => ?_⟩
    · rcases ht with ht | ⟨cs, fr, ht⟩
      · exact .inl ht
      · exact .inr ⟨cs, fr, hbk.trans ht⟩
    · have := hc j u hu
      unfold World.cell? at this ⊢
      rw [hbk]
      exact this⟩
theorem own_cap {w : World} {base size n c : Nat} {e : TypeId} {A : Option Addr} {xs : List Value} (h : w.ownsRow base e size (.slice A n c) n xs) : n ≤ c := by
  obtain ⟨_, c', he, h1, _⟩ := own_slice h
  injection he with _ _ hc
  omega
theorem peersF_nil (vs : List Int) (self next : Int) : peersF vs self next [] = (vs.filter (fun v => !(v == self))).map (fun v => ⟨v, next, 0⟩) := rfl
set_option maxRecDepth 100000 in
set_option maxHeartbeats 12800000 in
theorem RLead1_any (N : Nd) (a : NdA) (w : World) {B : Nat} (_hBw : B ≤ w.heap.size) (hN : NdOk w B N a) (_ht : Tab w) (hr0 : rightN N = true) (hK : (N.role == 1) = false) :
    Calls Tryz.prog 27 #[nodeV N a] w (RetNMs w B (leadN N) (leadL N)) := by
  have hzr : rightN N = true := hr0
  obtain ⟨vo, hvo⟩ : ∃ x, votersN N = x := ⟨_, rfl⟩
  obtain ⟨la, hla⟩ : ∃ x, lastJ N.h.l = x := ⟨_, rfl⟩
  obtain ⟨NL, hNL⟩ : ∃ x, leadN N = x := ⟨_, rfl⟩
  obtain ⟨LL, hLL⟩ : ∃ x, leadL N = x := ⟨_, rfl⟩
  obtain ⟨W2, hW2⟩ : ∃ x, leadW N = x := ⟨_, rfl⟩
  obtain ⟨zh, hzh⟩ : ∃ z, rightH (withH N.h ⟨N.h.t, 0, ⟨#[]⟩⟩) = z := ⟨_, rfl⟩
  obtain ⟨NB0, hNB0⟩ : ∃ x, leadB N = x := ⟨_, rfl⟩
  obtain ⟨NW, hNW⟩ : ∃ x, hdN (leadB N) (withH N.h ⟨N.h.t, 0, ⟨#[]⟩⟩) = x := ⟨_, rfl⟩
  have hno : Hid ((N.role == 1) = false → NL = N ∧ LL = []) := fun e => by
    have hc : leadC N = false := by unfold leadC; rw [hzr, Bool.true_and]; exact e
    rw [← hNL, ← hLL]
    unfold leadN leadL
    rw [hc]
    exact ⟨rfl, rfl⟩
  have hyes : Hid ((N.role == 1) = true → NL = sureN W2 ∧ LL = allM (sureN W2) ∧ rightN W2 = true) := fun e => by
    have hc : leadC N = true := by unfold leadC; rw [hzr, Bool.true_and]; exact e
    have e' : N.role = 1 := by simpa using e
    rw [← hNL, ← hLL, ← hW2]
    unfold leadN leadL
    rw [hc]
    exact ⟨rfl, rfl, (lead_right hzr e').1⟩
  have hWt : Hid (zh = true → W2 = NW) := fun e => by
    rw [← hW2, ← hNW]
    unfold leadW
    rw [hzh, if_pos e]
  have hWf : Hid (zh = false → W2 = NB0) := fun e => by
    rw [← hW2, ← hNB0]
    unfold leadW
    rw [hzh, if_neg (by rw [e]; exact Bool.false_ne_true)]
  have hn0 := right_n hr0
  have hcb0 := commit_bounds hr0
  have hj : Hid (rightJ N.h.l = true) := hn0.1
  have hvr : Hid (rightL vo = true) := by rw [← hvo]; exact of_right N.h.l.base N.h.l.rs hn0.2.1
  have hla0 : 0 ≤ la := by omega
  have hla1 : la ≤ 1073741824 := by omega
  have hv7a : a.V.n ≤ 7 := by
    have h1 := hN.vs.len
    have h2 := (right_len hn0.2.1).2
    omega
  have hb0 := nd_rn hN
  have hVO := fun (w : World) (k : NdOk w B N a) => NVoters_any N a w k (by omega)
  rw [hvo] at hVO
  have hEW := fun (a' : NdA) (w : World) (h0 : B ≤ w.heap.size) (k : NdOk w B NB0 a') (hj : rightJ N.h.l = true) (ht : Tab w) => RWith_any NB0 a' ⟨N.h.t, 0, ⟨#[]⟩⟩ w h0 k (by rw [← hNB0]; exact hj) ht
  have e1 : hdN NB0 (withH NB0.h ⟨N.h.t, 0, ⟨#[]⟩⟩) = NW := by rw [← hNW, ← hNB0]; rfl
  have e2 : rightH (withH NB0.h ⟨N.h.t, 0, ⟨#[]⟩⟩) = zh := by rw [← hzh, ← hNB0]; rfl
  rw [e1, e2] at hEW
  have hNBe : Hid (NB0 = ⟨N.id, N.h, 2, N.id, 2, N.commit, [], peersF vo N.id (la + 1) []⟩) := by
    rw [Hid, ← hNB0, ← hvo, ← hla]
    rfl
  have hEL := fun (w : World) (k : NdOk w B N a) => RLastN_any N a w k hn0.1
  rw [hla] at hEL
  rw [hNL, hLL]
  obtain ⟨PS, hPS⟩ : ∃ x, peersF vo N.id (la + 1) [] = x := ⟨_, rfl⟩
  rw [hPS] at hNBe
  rw [peersF_nil] at hPS
  replace hPS := hid_mk hPS
  clear hNL hLL hW2 hzh hNB0 hNW e1 e2 hzr hla hvo hn0 hcb0 hb0
  have hN0 := hN
  obtain ⟨id, ⟨t, v, ⟨base, bt, rs⟩, s, vs⟩, role, lead, timer, commit, got, ps⟩ := N
  obtain ⟨⟨RA, n, Rc⟩, ⟨VA, m, Vc⟩, ⟨GA, gn, Gc⟩, ⟨PA, pn, Pc⟩⟩ := a
  unfold nodeV at hEL hVO
  dsimp only at hno hyes hEW hNBe hEL hPS hVO hj hv7a hK
  replace hK := hid_mk hK
  have hU := hid_mk ((Blk.new w 30 #[.int .i64 id, .int .i64 t, .int .i64 v, .int .i64 base, .int .i64 bt, .slice RA n Rc, .string s, .slice VA m Vc, .int .i64 role, .int .i64 lead, .int .i64 timer, .int .i64 commit, .slice GA gn Gc, .slice PA pn Pc]).alloc (.cells #[.int .i64 0, .int .i64 0, .int .i64 0, .int .i64 0, .int .i64 0, .slice none 0 0, .string ⟨#[]⟩, .slice none 0 0, .int .i64 0, .int .i64 0, .int .i64 0, .int .i64 0, .slice none 0 0, .slice none 0 0] 30))
  have hY : Hid (Blk ((w.alloc (.cells #[.int .i64 id, .int .i64 t, .int .i64 v, .int .i64 base, .int .i64 bt, .slice RA n Rc, .string s, .slice VA m Vc, .int .i64 role, .int .i64 lead, .int .i64 timer, .int .i64 commit, .slice GA gn Gc, .slice PA pn Pc] 30)).alloc (.cells #[.int .i64 0, .int .i64 0, .int .i64 0, .int .i64 0, .int .i64 0, .slice none 0 0, .string ⟨#[]⟩, .slice none 0 0, .int .i64 0, .int .i64 0, .int .i64 0, .int .i64 0, .slice none 0 0, .slice none 0 0] 30)) (w.heap.size + 1) 30 #[.int .i64 0, .int .i64 0, .int .i64 0, .int .i64 0, .int .i64 0, .slice none 0 0, .string ⟨#[]⟩, .slice none 0 0, .int .i64 0, .int .i64 0, .int .i64 0, .int .i64 0, .slice none 0 0, .slice none 0 0]) := Blk.new_ (by simp)
  have q0 : Below w.heap.size w ((w.alloc (.cells #[.int .i64 id, .int .i64 t, .int .i64 v, .int .i64 base, .int .i64 bt, .slice RA n Rc, .string s, .slice VA m Vc, .int .i64 role, .int .i64 lead, .int .i64 timer, .int .i64 commit, .slice GA gn Gc, .slice PA pn Pc] 30)).alloc (.cells #[.int .i64 0, .int .i64 0, .int .i64 0, .int .i64 0, .int .i64 0, .slice none 0 0, .string ⟨#[]⟩, .slice none 0 0, .int .i64 0, .int .i64 0, .int .i64 0, .int .i64 0, .slice none 0 0, .slice none 0 0] 30)) := by go_grown
  show Calls Tryz.prog 27 #[.agg #[.int .i64 id, .int .i64 t, .int .i64 v, .int .i64 base, .int .i64 bt, .slice RA n Rc, .string s, .slice VA m Vc, .int .i64 role, .int .i64 lead, .int .i64 timer, .int .i64 commit, .slice GA gn Gc, .slice PA pn Pc]] w _
  refine calls_of_wpQ Tryz.func27 rfl ?_
  intro Q hQ
  simp only [Tryz.ntmps27, List.size_toArray, List.length_cons, List.length_nil, Nat.reduceAdd, Nat.reduceSub, Array.replicate_succ, Array.replicate_zero, List.push_toArray, List.append_toArray, List.nil_append, List.cons_append]
  go_upto_region 1 with fail
  obtain ⟨w0, hw0⟩ : ∃ x, (w.alloc (.cells #[.int .i64 id, .int .i64 t, .int .i64 v, .int .i64 base, .int .i64 bt, .slice RA n Rc, .string s, .slice VA m Vc, .int .i64 role, .int .i64 lead, .int .i64 timer, .int .i64 commit, .slice GA gn Gc, .slice PA pn Pc] 30)).alloc (.cells #[.int .i64 0, .int .i64 0, .int .i64 0, .int .i64 0, .int .i64 0, .slice none 0 0, .string ⟨#[]⟩, .slice none 0 0, .int .i64 0, .int .i64 0, .int .i64 0, .int .i64 0, .slice none 0 0, .slice none 0 0] 30) = x := ⟨_, rfl⟩
  rw [hw0] at hU hY q0
  try rw [hw0]
  have hsz0 : w0.heap.size = w.heap.size + 1 + 1 := by rw [← hw0]; simp
  clear hw0
  replace hsz0 := hid_mk hsz0
  by_cases g1 : role = 1
  case neg =>
    have g1' : (role != 1) = true := by simpa using g1
    have g1n := hid_mk (show (role == 1) = false by simpa using g1)
    replace g1 := hid_mk g1
    have hn := hid_mk (hno.out (g1n.out))
    obtain ⟨xl, x0, x1, x2, x3, x4, x5, x6, x7, x8, x9, x10, x11, x12, x13, xf0, xf1, xf2, xf3, xf4, xf5, xf6, xf7, xf8, xf9, xf10, xf11, xf12, xf13⟩ := blk14f hU.out
    obtain ⟨yl, y0, y1, y2, y3, y4, y5, y6, y7, y8, y9, y10, y11, y12, y13, yf0, yf1, yf2, yf3, yf4, yf5, yf6, yf7, yf8, yf9, yf10, yf11, yf12, yf13⟩ := blk14f hY.out
    go_wp2
    clear xl x0 x1 x2 x3 x4 x5 x6 x7 x8 x9 x10 x11 x12 x13 xf0 xf1 xf2 xf3 xf4 xf5 xf6 xf7 xf8 xf9 xf10 xf11 xf12 xf13
    clear yl y0 y1 y2 y3 y4 y5 y6 y7 y8 y9 y10 y11 y12 y13 yf0 yf1 yf2 yf3 yf4 yf5 yf6 yf7 yf8 yf9 yf10 yf11 yf12 yf13
    have kfin := set14_blk hY.out (.int .i64 id) (.int .i64 t) (.int .i64 v) (.int .i64 base) (.int .i64 bt) (.slice RA n Rc) (.string s) (.slice VA m Vc) (.int .i64 role) (.int .i64 lead) (.int .i64 timer) (.int .i64 commit) (.slice GA gn Gc) (.slice PA pn Pc)
    unfold set14 at kfin
    obtain ⟨_, r0, r1, r2, r3, r4, r5, r6, r7, r8, r9, r10, r11, r12, r13⟩ := blk14c kfin
    refine ends_ret hQ (v := .tuple #[.agg #[.int .i64 id, .int .i64 t, .int .i64 v, .int .i64 base, .int .i64 bt, .slice RA n Rc, .string s, .slice VA m Vc, .int .i64 role, .int .i64 lead, .int .i64 timer, .int .i64 commit, .slice GA gn Gc, .slice PA pn Pc], .slice none 0 0]) (by simp [results, Tryz.results27, go_sem, r0, r1, r2, r3, r4, r5, r6, r7, r8, r9, r10, r11, r12, r13]) rfl ?_
    exact ⟨⟨⟨RA, n, Rc⟩, ⟨VA, m, Vc⟩, ⟨GA, gn, Gc⟩, ⟨PA, pn, Pc⟩⟩, none, 0, 0, [], by rw [hn.out.1]; rfl, by rw [hn.out.1]; exact hN0.to (set14_below (.int .i64 id) (.int .i64 t) (.int .i64 v) (.int .i64 base) (.int .i64 bt) (.slice RA n Rc) (.string s) (.slice VA m Vc) (.int .i64 role) (.int .i64 lead) (.int .i64 timer) (.int .i64 commit) (.slice GA gn Gc) (.slice PA pn Pc) q0 (by omega)), mgs_nil, by rw [hn.out.2]; rfl, Nat.le_refl _, set14_below (.int .i64 id) (.int .i64 t) (.int .i64 v) (.int .i64 base) (.int .i64 bt) (.slice RA n Rc) (.string s) (.slice VA m Vc) (.int .i64 role) (.int .i64 lead) (.int .i64 timer) (.int .i64 commit) (.slice GA gn Gc) (.slice PA pn Pc) q0 (by omega)⟩
  exact absurd hK.out (by rw [g1]; decide)
set_option maxRecDepth 100000 in
set_option maxHeartbeats 12800000 in
theorem RLead2_any (N : Nd) (a : NdA) (w : World) {B : Nat} (hBw : B ≤ w.heap.size) (hN : NdOk w B N a) (ht : Tab w) (hr0 : rightN N = true) (hA : N.role = 1) (hB : rightH (withH N.h ⟨N.h.t, 0, ⟨#[]⟩⟩) = false) :
    Calls Tryz.prog 27 #[nodeV N a] w (RetNMs w B (leadN N) (leadL N)) := by
  have hzr : rightN N = true := hr0
  obtain ⟨vo, hvo⟩ : ∃ x, votersN N = x := ⟨_, rfl⟩
  obtain ⟨la, hla⟩ : ∃ x, lastJ N.h.l = x := ⟨_, rfl⟩
  obtain ⟨NL, hNL⟩ : ∃ x, leadN N = x := ⟨_, rfl⟩
  obtain ⟨LL, hLL⟩ : ∃ x, leadL N = x := ⟨_, rfl⟩
  obtain ⟨W2, hW2⟩ : ∃ x, leadW N = x := ⟨_, rfl⟩
  obtain ⟨zh, hzh⟩ : ∃ z, rightH (withH N.h ⟨N.h.t, 0, ⟨#[]⟩⟩) = z := ⟨_, rfl⟩
  obtain ⟨NB0, hNB0⟩ : ∃ x, leadB N = x := ⟨_, rfl⟩
  obtain ⟨NW, hNW⟩ : ∃ x, hdN (leadB N) (withH N.h ⟨N.h.t, 0, ⟨#[]⟩⟩) = x := ⟨_, rfl⟩
  rw [hzh] at hB
  have hno : Hid ((N.role == 1) = false → NL = N ∧ LL = []) := fun e => by
    have hc : leadC N = false := by unfold leadC; rw [hzr, Bool.true_and]; exact e
    rw [← hNL, ← hLL]
    unfold leadN leadL
    rw [hc]
    exact ⟨rfl, rfl⟩
  have hyes : Hid ((N.role == 1) = true → NL = sureN W2 ∧ LL = allM (sureN W2) ∧ rightN W2 = true) := fun e => by
    have hc : leadC N = true := by unfold leadC; rw [hzr, Bool.true_and]; exact e
    have e' : N.role = 1 := by simpa using e
    rw [← hNL, ← hLL, ← hW2]
    unfold leadN leadL
    rw [hc]
    exact ⟨rfl, rfl, (lead_right hzr e').1⟩
  have hWt : Hid (zh = true → W2 = NW) := fun e => by
    rw [← hW2, ← hNW]
    unfold leadW
    rw [hzh, if_pos e]
  have hWf : Hid (zh = false → W2 = NB0) := fun e => by
    rw [← hW2, ← hNB0]
    unfold leadW
    rw [hzh, if_neg (by rw [e]; exact Bool.false_ne_true)]
  have hn0 := right_n hr0
  have hcb0 := commit_bounds hr0
  have hj : Hid (rightJ N.h.l = true) := hn0.1
  have hvr : Hid (rightL vo = true) := by rw [← hvo]; exact of_right N.h.l.base N.h.l.rs hn0.2.1
  have hla0 : 0 ≤ la := by omega
  have hla1 : la ≤ 1073741824 := by omega
  have hv7a : a.V.n ≤ 7 := by
    have h1 := hN.vs.len
    have h2 := (right_len hn0.2.1).2
    omega
  have hb0 := nd_rn hN
  have hVO := fun (w : World) (k : NdOk w B N a) => NVoters_any N a w k (by omega)
  rw [hvo] at hVO
  have hEW := fun (a' : NdA) (w : World) (h0 : B ≤ w.heap.size) (k : NdOk w B NB0 a') (hj : rightJ N.h.l = true) (ht : Tab w) => RWith_any NB0 a' ⟨N.h.t, 0, ⟨#[]⟩⟩ w h0 k (by rw [← hNB0]; exact hj) ht
  have e1 : hdN NB0 (withH NB0.h ⟨N.h.t, 0, ⟨#[]⟩⟩) = NW := by rw [← hNW, ← hNB0]; rfl
  have e2 : rightH (withH NB0.h ⟨N.h.t, 0, ⟨#[]⟩⟩) = zh := by rw [← hzh, ← hNB0]; rfl
  rw [e1, e2] at hEW
  have hNBe : Hid (NB0 = ⟨N.id, N.h, 2, N.id, 2, N.commit, [], peersF vo N.id (la + 1) []⟩) := by
    rw [Hid, ← hNB0, ← hvo, ← hla]
    rfl
  have hEL := fun (w : World) (k : NdOk w B N a) => RLastN_any N a w k hn0.1
  rw [hla] at hEL
  rw [hNL, hLL]
  obtain ⟨PS, hPS⟩ : ∃ x, peersF vo N.id (la + 1) [] = x := ⟨_, rfl⟩
  rw [hPS] at hNBe
  rw [peersF_nil] at hPS
  replace hPS := hid_mk hPS
  clear hNL hLL hW2 hzh hNB0 hNW e1 e2 hzr hla hvo hn0 hcb0 hb0
  have hN0 := hN
  obtain ⟨id, ⟨t, v, ⟨base, bt, rs⟩, s, vs⟩, role, lead, timer, commit, got, ps⟩ := N
  obtain ⟨⟨RA, n, Rc⟩, ⟨VA, m, Vc⟩, ⟨GA, gn, Gc⟩, ⟨PA, pn, Pc⟩⟩ := a
  unfold nodeV at hEL hVO
  dsimp only at hno hyes hEW hNBe hEL hPS hVO hj hv7a hA hB
  replace hA := hid_mk hA
  replace hB := hid_mk hB
  have hU := hid_mk ((Blk.new w 30 #[.int .i64 id, .int .i64 t, .int .i64 v, .int .i64 base, .int .i64 bt, .slice RA n Rc, .string s, .slice VA m Vc, .int .i64 role, .int .i64 lead, .int .i64 timer, .int .i64 commit, .slice GA gn Gc, .slice PA pn Pc]).alloc (.cells #[.int .i64 0, .int .i64 0, .int .i64 0, .int .i64 0, .int .i64 0, .slice none 0 0, .string ⟨#[]⟩, .slice none 0 0, .int .i64 0, .int .i64 0, .int .i64 0, .int .i64 0, .slice none 0 0, .slice none 0 0] 30))
  have hY : Hid (Blk ((w.alloc (.cells #[.int .i64 id, .int .i64 t, .int .i64 v, .int .i64 base, .int .i64 bt, .slice RA n Rc, .string s, .slice VA m Vc, .int .i64 role, .int .i64 lead, .int .i64 timer, .int .i64 commit, .slice GA gn Gc, .slice PA pn Pc] 30)).alloc (.cells #[.int .i64 0, .int .i64 0, .int .i64 0, .int .i64 0, .int .i64 0, .slice none 0 0, .string ⟨#[]⟩, .slice none 0 0, .int .i64 0, .int .i64 0, .int .i64 0, .int .i64 0, .slice none 0 0, .slice none 0 0] 30)) (w.heap.size + 1) 30 #[.int .i64 0, .int .i64 0, .int .i64 0, .int .i64 0, .int .i64 0, .slice none 0 0, .string ⟨#[]⟩, .slice none 0 0, .int .i64 0, .int .i64 0, .int .i64 0, .int .i64 0, .slice none 0 0, .slice none 0 0]) := Blk.new_ (by simp)
  have q0 : Below w.heap.size w ((w.alloc (.cells #[.int .i64 id, .int .i64 t, .int .i64 v, .int .i64 base, .int .i64 bt, .slice RA n Rc, .string s, .slice VA m Vc, .int .i64 role, .int .i64 lead, .int .i64 timer, .int .i64 commit, .slice GA gn Gc, .slice PA pn Pc] 30)).alloc (.cells #[.int .i64 0, .int .i64 0, .int .i64 0, .int .i64 0, .int .i64 0, .slice none 0 0, .string ⟨#[]⟩, .slice none 0 0, .int .i64 0, .int .i64 0, .int .i64 0, .int .i64 0, .slice none 0 0, .slice none 0 0] 30)) := by go_grown
  show Calls Tryz.prog 27 #[.agg #[.int .i64 id, .int .i64 t, .int .i64 v, .int .i64 base, .int .i64 bt, .slice RA n Rc, .string s, .slice VA m Vc, .int .i64 role, .int .i64 lead, .int .i64 timer, .int .i64 commit, .slice GA gn Gc, .slice PA pn Pc]] w _
  refine calls_of_wpQ Tryz.func27 rfl ?_
  intro Q hQ
  simp only [Tryz.ntmps27, List.size_toArray, List.length_cons, List.length_nil, Nat.reduceAdd, Nat.reduceSub, Array.replicate_succ, Array.replicate_zero, List.push_toArray, List.append_toArray, List.nil_append, List.cons_append]
  go_upto_region 1 with fail
  obtain ⟨w0, hw0⟩ : ∃ x, (w.alloc (.cells #[.int .i64 id, .int .i64 t, .int .i64 v, .int .i64 base, .int .i64 bt, .slice RA n Rc, .string s, .slice VA m Vc, .int .i64 role, .int .i64 lead, .int .i64 timer, .int .i64 commit, .slice GA gn Gc, .slice PA pn Pc] 30)).alloc (.cells #[.int .i64 0, .int .i64 0, .int .i64 0, .int .i64 0, .int .i64 0, .slice none 0 0, .string ⟨#[]⟩, .slice none 0 0, .int .i64 0, .int .i64 0, .int .i64 0, .int .i64 0, .slice none 0 0, .slice none 0 0] 30) = x := ⟨_, rfl⟩
  rw [hw0] at hU hY q0
  try rw [hw0]
  have hsz0 : w0.heap.size = w.heap.size + 1 + 1 := by rw [← hw0]; simp
  clear hw0
  replace hsz0 := hid_mk hsz0
  by_cases g1 : role = 1
  case neg =>
    have g1' : (role != 1) = true := by simpa using g1
    have g1n := hid_mk (show (role == 1) = false by simpa using g1)
    replace g1 := hid_mk g1
    exact absurd hA.out g1.out
  have g1' : (role != 1) = false := by simpa using g1
  obtain ⟨hy1, hy2, hy3⟩ := hyes.out (by simpa using g1)
  replace hy1 := hid_mk hy1
  replace hy2 := hid_mk hy2
  replace hy3 := hid_mk hy3
  replace g1 := hid_mk g1
  clear hno hyes
  obtain ⟨ul, u0, u1, u2, u3, u4, u5, u6, u7, u8, u9, u10, u11, u12, u13, uf0, uf1, uf2, uf3, uf4, uf5, uf6, uf7, uf8, uf9, uf10, uf11, uf12, uf13⟩ := blk14f hU.out
  have z0 := q0.size
  go_upto_region 4 with fail
  clear ul u0 u1 u2 u3 u4 u5 u6 u7 u8 u9 u10 u11 u12 u13 uf0 uf1 uf2 uf3 uf4 uf5 uf6 uf7 uf8 uf9 uf10 uf11 uf12 uf13
  have hX : Hid (Blk (w0.alloc (.cells #[.int .i64 id, .int .i64 t, .int .i64 v, .int .i64 base, .int .i64 bt, .slice RA n Rc, .string s, .slice VA m Vc, .int .i64 2, .int .i64 id, .int .i64 2, .int .i64 commit, .slice none 0 0, .slice none 0 0] 30)) (w.heap.size + 1 + 1) 30 #[.int .i64 id, .int .i64 t, .int .i64 v, .int .i64 base, .int .i64 bt, .slice RA n Rc, .string s, .slice VA m Vc, .int .i64 2, .int .i64 id, .int .i64 2, .int .i64 commit, .slice none 0 0, .slice none 0 0]) := by rw [← hsz0.out]; exact Blk.new _ _ _
  replace hU := hid_mk (hU.out.alloc (.cells #[.int .i64 id, .int .i64 t, .int .i64 v, .int .i64 base, .int .i64 bt, .slice RA n Rc, .string s, .slice VA m Vc, .int .i64 2, .int .i64 id, .int .i64 2, .int .i64 commit, .slice none 0 0, .slice none 0 0] 30))
  replace hY := hid_mk (hY.out.alloc (.cells #[.int .i64 id, .int .i64 t, .int .i64 v, .int .i64 base, .int .i64 bt, .slice RA n Rc, .string s, .slice VA m Vc, .int .i64 2, .int .i64 id, .int .i64 2, .int .i64 commit, .slice none 0 0, .slice none 0 0] 30))
  have q1 : Below w.heap.size w (w0.alloc (.cells #[.int .i64 id, .int .i64 t, .int .i64 v, .int .i64 base, .int .i64 bt, .slice RA n Rc, .string s, .slice VA m Vc, .int .i64 2, .int .i64 id, .int .i64 2, .int .i64 commit, .slice none 0 0, .slice none 0 0] 30)) := by go_grown
  obtain ⟨w1, hw1⟩ : ∃ x, w0.alloc (.cells #[.int .i64 id, .int .i64 t, .int .i64 v, .int .i64 base, .int .i64 bt, .slice RA n Rc, .string s, .slice VA m Vc, .int .i64 2, .int .i64 id, .int .i64 2, .int .i64 commit, .slice none 0 0, .slice none 0 0] 30) = x := ⟨_, rfl⟩
  rw [hw1] at hX hU hY q1
  try rw [hw1]
  try rw [hsz0.out]
  clear hw1 q0
  obtain ⟨ul, u0, u1, u2, u3, u4, u5, u6, u7, u8, u9, u10, u11, u12, u13, uf0, uf1, uf2, uf3, uf4, uf5, uf6, uf7, uf8, uf9, uf10, uf11, uf12, uf13⟩ := blk14f hU.out
  go_wp2_with fail
  clear ul u0 u1 u2 u3 u4 u5 u6 u7 u8 u9 u10 u11 u12 u13 uf0 uf1 uf2 uf3 uf4 uf5 uf6 uf7 uf8 uf9 uf10 uf11 uf12 uf13
  refine (hVO _ (hN0.to q1)).mono ?_
  rintro e w2 ⟨VA2, vn, vc, rfl, hvI, hvn, hb1⟩
  have q2 := (after (w := w) hb1 q1).1
  replace hX := hid_mk (hX.out.keep hb1)
  replace hU := hid_mk (hU.out.keep hb1)
  replace hY := hid_mk (hY.out.keep hb1)
  have hv7 : vn ≤ 7 := by
    have h1 := hvI.len
    have h2 := (right_len hvr.out).2
    omega
  replace hvI := hid_mk hvI
  clear hb1 q1
  obtain ⟨gD, hgD⟩ : ∃ g, w2.heap.size = g := ⟨_, rfl⟩
  have hyD : w.heap.size + 1 + 1 < gD := by rw [← hgD]; exact hX.out.lt
  replace hgD := hid_mk hgD
  obtain ⟨i0, hi0, hz0, hz1, hz2⟩ := info_parts prInfo
  have hvl := hid_mk hvI.out.len
  go_wp2
  go_loopw [25] (fun iv wr => ∃ (k qn qc : Nat) (Qa : Option Addr), iv = .int .i64 k ∧ k ≤ vn ∧ Below w.heap.size w wr ∧ gD ≤ wr.heap.size ∧ qn ≤ k ∧ Hid (Blk wr (w.heap.size + 1 + 1) 30 #[.int .i64 id, .int .i64 t, .int .i64 v, .int .i64 base, .int .i64 bt, .slice RA n Rc, .string s, .slice VA m Vc, .int .i64 2, .int .i64 id, .int .i64 2, .int .i64 commit, .slice none 0 0, .slice Qa qn qc]) ∧ Hid (wr.ownsRow gD 53 3 (.slice Qa qn qc) qn (prsL (((vo.take k).filter (fun v => !(v == id))).map (fun v => ⟨v, la + 1, 0⟩)))) ∧ Hid (Blk wr (w.heap.size) 30 #[.int .i64 id, .int .i64 t, .int .i64 v, .int .i64 base, .int .i64 bt, .slice RA n Rc, .string s, .slice VA m Vc, .int .i64 role, .int .i64 lead, .int .i64 timer, .int .i64 commit, .slice GA gn Gc, .slice PA pn Pc]) ∧ Hid (Blk wr (w.heap.size + 1) 30 #[.int .i64 0, .int .i64 0, .int .i64 0, .int .i64 0, .int .i64 0, .slice none 0 0, .string ⟨#[]⟩, .slice none 0 0, .int .i64 0, .int .i64 0, .int .i64 0, .int .i64 0, .slice none 0 0, .slice none 0 0]) ∧ Hid (Ints wr B VA2 vn vo)) (fun iv _ => vn - (intOf iv).toNat)
  case atStart => exact ⟨0, 0, 0, none, rfl, Nat.zero_le _, q2, by rw [← hgD.out]; exact Nat.le_refl _, Nat.zero_le _, hX, World.ownsRow_nil _ _ _ _, hU, hY, hvI⟩
  case round =>
    clear hX hU hY hvI q2
    obtain ⟨k, qn, qc, Qa, rfl, hk, hb, hgw, hqk, hX, hown, hU, hY, hvI⟩ := hrel
    have zr := hb.size
    by_cases hkn : k < vn
    · obtain ⟨bv, ov, x, hA, hbv, hdx, cx⟩ := hvI.out.at_ hkn
      subst hA
      have hft := hid_mk (filt_take (self := id) hdx.out)
      replace hdx := hid_mk hdx
      have u0 := hU.out.cell 0
      change _ = some (Value.int .i64 id) at u0
      have ul := hU.out.lt
      by_cases hx : x = id
      · have hxb : (x != id) = false := by simpa using hx
        have hown2 : Hid (wr.ownsRow gD 53 3 (.slice Qa qn qc) qn (prsL (((vo.take (k + 1)).filter (fun v => !(v == id))).map (fun v => ⟨v, la + 1, 0⟩)))) := by
          rw [hft.out, if_pos hx, List.append_nil]
          exact hown
        replace hx := hid_mk hx
        go_wp2
        go_roundw
        case rel => exact ⟨k + 1, qn, qc, Qa, by go_num, by omega, hb, hgw, by omega, hX, hown2, hU, hY, hvI⟩
        case measure => simp [intOf]; omega
      · have hxb : (x != id) = true := by simpa using hx
        rw [if_neg hx] at hft
        replace hx := hid_mk hx
        go_upto_region 8 with fail
        clear u0 ul
        refine wp_region_T' (fun w' => w'.cell? ⟨w.heap.size + 1 + 1, 13, none⟩ = some (.slice Qa qn qc) ∧ w'.cell? ⟨w.heap.size, 0, none⟩ = some (.int .i64 id) ∧ w'.cell? ⟨w.heap.size, 1, none⟩ = some (.int .i64 t) ∧ w'.cell? ⟨w.heap.size, 2, none⟩ = some (.int .i64 v) ∧ w'.cell? ⟨w.heap.size, 3, none⟩ = some (.int .i64 base) ∧ w'.cell? ⟨w.heap.size, 4, none⟩ = some (.int .i64 bt) ∧ w'.cell? ⟨w.heap.size, 5, none⟩ = some (.slice RA n Rc) ∧ w'.cell? ⟨w.heap.size, 6, none⟩ = some (.string s) ∧ w'.cell? ⟨w.heap.size, 7, none⟩ = some (.slice VA m Vc) ∧ w'.cell? ⟨w.heap.size, 8, none⟩ = some (.int .i64 role) ∧ w'.cell? ⟨w.heap.size, 9, none⟩ = some (.int .i64 lead) ∧ w'.cell? ⟨w.heap.size, 10, none⟩ = some (.int .i64 timer) ∧ w'.cell? ⟨w.heap.size, 11, none⟩ = some (.int .i64 commit) ∧ w'.cell? ⟨w.heap.size, 12, none⟩ = some (.slice GA gn Gc) ∧ w'.cell? ⟨w.heap.size, 13, none⟩ = some (.slice PA pn Pc)) (fun j => decide (j < 10)) 11 (by kernel_rfl) (by kernel_rfl) (by exact ⟨hX.out.cell 13, hU.out.cell 0, hU.out.cell 1, hU.out.cell 2, hU.out.cell 3, hU.out.cell 4, hU.out.cell 5, hU.out.cell 6, hU.out.cell 7, hU.out.cell 8, hU.out.cell 9, hU.out.cell 10, hU.out.cell 11, hU.out.cell 12, hU.out.cell 13⟩) (fun hS0 => ?_)
        replace hX := hid_mk hX.out.drew
        replace hU := hid_mk hU.out.drew
        replace hY := hid_mk hY.out.drew
        replace hown := hid_mk hown.out.drew
        replace hvI : Hid (Ints wr.drew B (some ⟨bv, ov, none⟩) vn vo) := hvI.out.to (by go_grown)
        have qd : Below w.heap.size w wr.drew := by go_grown
        have hgd : gD ≤ wr.drew.heap.size := hgw
        obtain ⟨wd, hwd⟩ : ∃ x, wr.drew = x := ⟨_, rfl⟩
        rw [hwd] at hS0 hX hU hY hown hvI qd hgd ⊢
        clear hwd cx
        refine wpAnyT_take (i := 0) rfl (by kernel_rfl) (by kernel_rfl) (by kernel_rfl) rfl (by kernel_rfl) (fun _ _ _ h => h) (by kernel_rfl) (fun w' hS => (by obtain ⟨s13, t0, t1, t2, t3, t4, t5, t6, t7, t8, t9, t10, t11, t12, t13⟩ := hS; go_simp; try with_reducible rfl)) hS0 ?_
        simp only [Act.put]
        refine wpAnyT_take (i := 1) rfl (by kernel_rfl) (by kernel_rfl) (by kernel_rfl) rfl (by kernel_rfl) (fun _ _ _ h => h) (by kernel_rfl) (fun w' hS => (by obtain ⟨s13, t0, t1, t2, t3, t4, t5, t6, t7, t8, t9, t10, t11, t12, t13⟩ := hS; go_simp; try with_reducible rfl)) hS0 ?_
        simp only [Act.put]
        refine wpAnyT_take (i := 2) rfl (by kernel_rfl) (by kernel_rfl) (by kernel_rfl) rfl (by kernel_rfl) (fun _ _ _ h => h) (by kernel_rfl) (fun w' hS => (by obtain ⟨s13, t0, t1, t2, t3, t4, t5, t6, t7, t8, t9, t10, t11, t12, t13⟩ := hS; go_simp; try with_reducible rfl)) hS0 ?_
        simp only [Act.put]
        refine wpAnyT_take (i := 3) rfl (by kernel_rfl) (by kernel_rfl) (by kernel_rfl) rfl (by kernel_rfl) (fun _ _ _ h => h) (by kernel_rfl) (fun w' hS => (by obtain ⟨s13, t0, t1, t2, t3, t4, t5, t6, t7, t8, t9, t10, t11, t12, t13⟩ := hS; go_simp; try with_reducible rfl)) hS0 ?_
        simp only [Act.put]
        refine wpAnyT_one (i := 4) (by kernel_rfl) rfl (fun K hK => ?_)
        go_simp
        refine (hEL _ (hN0.to qd)).mono ?_
        rintro e w5 ⟨rfl, hb1⟩
        have q5 := (after (w := w) hb1 qd).1
        have hg5 : gD ≤ w5.heap.size := Nat.le_trans hgd hb1.size
        replace hX := hid_mk (hX.out.keep hb1)
        replace hU := hid_mk (hU.out.keep hb1)
        replace hY := hid_mk (hY.out.keep hb1)
        replace hown := hid_mk (own_keep hown.out hb1)
        replace hvI := hid_mk (hvI.out.to hb1)
        have hw64 : IntKind.i64.wrap (la + 1) = la + 1 := IntWalk.i64_in _ (by omega)
        clear hb1 qd hgd
        refine hK.out _ _ (fun _ => ⟨hX.out.cell 13, hU.out.cell 0, hU.out.cell 1, hU.out.cell 2, hU.out.cell 3, hU.out.cell 4, hU.out.cell 5, hU.out.cell 6, hU.out.cell 7, hU.out.cell 8, hU.out.cell 9, hU.out.cell 10, hU.out.cell 11, hU.out.cell 12, hU.out.cell 13⟩) ?_
        clear hK K
        try simp only [Act.put]
        refine wpAnyT_take (i := 5) rfl (by kernel_rfl) (by kernel_rfl) (by kernel_rfl) rfl (by kernel_rfl) (fun _ _ _ h => h) (by kernel_rfl) (fun w' hS => (by obtain ⟨s13, t0, t1, t2, t3, t4, t5, t6, t7, t8, t9, t10, t11, t12, t13⟩ := hS; go_simp; try with_reducible rfl)) ⟨hX.out.cell 13, hU.out.cell 0, hU.out.cell 1, hU.out.cell 2, hU.out.cell 3, hU.out.cell 4, hU.out.cell 5, hU.out.cell 6, hU.out.cell 7, hU.out.cell 8, hU.out.cell 9, hU.out.cell 10, hU.out.cell 11, hU.out.cell 12, hU.out.cell 13⟩ ?_
        simp only [Act.put]
        refine wpAnyT_take (i := 6) rfl (by kernel_rfl) (by kernel_rfl) (by kernel_rfl) rfl (by kernel_rfl) (fun _ _ _ h => h) (by kernel_rfl) (fun w' hS => (by obtain ⟨s13, t0, t1, t2, t3, t4, t5, t6, t7, t8, t9, t10, t11, t12, t13⟩ := hS; go_simp; try with_reducible rfl)) ⟨hX.out.cell 13, hU.out.cell 0, hU.out.cell 1, hU.out.cell 2, hU.out.cell 3, hU.out.cell 4, hU.out.cell 5, hU.out.cell 6, hU.out.cell 7, hU.out.cell 8, hU.out.cell 9, hU.out.cell 10, hU.out.cell 11, hU.out.cell 12, hU.out.cell 13⟩ ?_
        simp only [Act.put]
        refine wpAnyT_one (i := 7) (by kernel_rfl) rfl (fun K hK => ?_)
        go_simp
        obtain ⟨gN, hgN⟩ : ∃ g, w5.heap.size = g := ⟨_, rfl⟩
        have hL : Hid (Prs (w5.alloc (.cells #[.int .i64 x, .int .i64 (la + 1), .int .i64 0] 53)) 0 (some ⟨gN, 0, none⟩) 1 [⟨x, la + 1, 0⟩]) := by rw [← hgN]; exact reads_new w5 #[.int .i64 x, .int .i64 (la + 1), .int .i64 0] 53 1 3 0 rfl
        replace hX := hid_mk (hX.out.alloc (.cells #[.int .i64 x, .int .i64 (la + 1), .int .i64 0] 53))
        replace hU := hid_mk (hU.out.alloc (.cells #[.int .i64 x, .int .i64 (la + 1), .int .i64 0] 53))
        replace hY := hid_mk (hY.out.alloc (.cells #[.int .i64 x, .int .i64 (la + 1), .int .i64 0] 53))
        replace hown := hid_mk (hown.out.alloc (.cells #[.int .i64 x, .int .i64 (la + 1), .int .i64 0] 53))
        replace hvI : Hid (Ints (w5.alloc (.cells #[.int .i64 x, .int .i64 (la + 1), .int .i64 0] 53)) B (some ⟨bv, ov, none⟩) vn vo) := hvI.out.to (by go_grown)
        have q6 := q5.alloc q5.size (.cells #[.int .i64 x, .int .i64 (la + 1), .int .i64 0] 53)
        have hg6 : gD ≤ (w5.alloc (.cells #[.int .i64 x, .int .i64 (la + 1), .int .i64 0] 53)).heap.size := by simp only [World.size_alloc]; omega
        obtain ⟨w6, hw6⟩ : ∃ y, w5.alloc (.cells #[.int .i64 x, .int .i64 (la + 1), .int .i64 0] 53) = y := ⟨_, rfl⟩
        rw [hw6] at hL hX hU hY hown hvI q6 hg6 ⊢
        rw [hgN]
        clear hw6 hgN q5 hg5
        refine hK.out _ _ (fun _ => ⟨hX.out.cell 13, hU.out.cell 0, hU.out.cell 1, hU.out.cell 2, hU.out.cell 3, hU.out.cell 4, hU.out.cell 5, hU.out.cell 6, hU.out.cell 7, hU.out.cell 8, hU.out.cell 9, hU.out.cell 10, hU.out.cell 11, hU.out.cell 12, hU.out.cell 13⟩) ?_
        clear hK K
        try simp only [Act.put]
        refine wpAnyT_one (i := 8) (by kernel_rfl) rfl (fun K hK => ?_)
        refine step_append_any _ rfl (.tmp 34) (.tmp 40) 28 rfl gD 53 i0 _ 3 24 Tryz.underlying28 hi0 hz0 hz1 hz2 rfl (by omega) _ qn _ rfl hown.out 0 (some ⟨gN, 0, none⟩) 1 1 _ rfl hL.out (pr_one _) (by simp only [maxLen]; omega) (by omega) hg6 ?_
        intro v5 w7 hown5 hgr _
        have q7 : Below w.heap.size w w7 := grown_below q6 hgr (fun k hk => by have := (World.ownsRow.lt hown.out k hk).1; omega)
        have hg7 : gD ≤ w7.heap.size := Nat.le_trans hg6 hgr.size
        replace hX := hid_mk (Blk.grown hX.out hgr (own_ne hown.out hX.out))
        replace hU := hid_mk (Blk.grown hU.out hgr (own_ne hown.out hU.out))
        replace hY := hid_mk (Blk.grown hY.out hgr (own_ne hown.out hY.out))
        replace hvI := hid_mk (reads_grownB hvI.out hgr (fun k hk => by
          have h1 := (World.ownsRow.lt hown.out k hk).1
          obtain ⟨cs, fr, h⟩ := own_typedS hown.out k hk
          exact ⟨by omega, _, cs, fr, h, by decide⟩))
        obtain ⟨Qb, cb, rfl, _, _⟩ := own_slice hown5
        replace hown := hid_mk hown5
        clear hL hgr q6 hg6 hown5
        refine hK.out _ _ (fun _ => ⟨hX.out.cell 13, hU.out.cell 0, hU.out.cell 1, hU.out.cell 2, hU.out.cell 3, hU.out.cell 4, hU.out.cell 5, hU.out.cell 6, hU.out.cell 7, hU.out.cell 8, hU.out.cell 9, hU.out.cell 10, hU.out.cell 11, hU.out.cell 12, hU.out.cell 13⟩) ?_
        clear hK K
        try simp only [Act.put]
        refine wpAnyT_one (i := 9) (by kernel_rfl) rfl (fun K hK => ?_)
        go_simp
        refine hK.out _ _ (fun _ => ⟨hX.out.cell 13, hU.out.cell 0, hU.out.cell 1, hU.out.cell 2, hU.out.cell 3, hU.out.cell 4, hU.out.cell 5, hU.out.cell 6, hU.out.cell 7, hU.out.cell 8, hU.out.cell 9, hU.out.cell 10, hU.out.cell 11, hU.out.cell 12, hU.out.cell 13⟩) ?_
        clear hK K
        try simp only [Act.put]
        have x13 := hX.out.cell 13
        change _ = some (Value.slice Qa qn qc) at x13
        have xf13 := hX.out.frozen 13
        have xl13 := hX.out.lt
        refine wpAnyT_one (i := 10) (by kernel_rfl) rfl (fun K hK => ?_)
        go_simp
        refine hK.out _ _ (fun h => absurd h (by decide)) ?_
        clear hK K
        try simp only [Act.put]
        refine wpAnyT_done (by kernel_rfl) ?_ _
        clear x13 xf13 xl13
        have hXn : Blk (w7.setCell ⟨w.heap.size + 1 + 1, 13, none⟩ (.slice Qb (qn + 1) cb)) (w.heap.size + 1 + 1) 30 #[.int .i64 id, .int .i64 t, .int .i64 v, .int .i64 base, .int .i64 bt, .slice RA n Rc, .string s, .slice VA m Vc, .int .i64 2, .int .i64 id, .int .i64 2, .int .i64 commit, .slice none 0 0, .slice Qb (qn + 1) cb] := hX.out.set_ 13 _
        have hUn := hU.out.far (p := ⟨w.heap.size + 1 + 1, 13, none⟩) (by dsimp only; omega) (.slice Qb (qn + 1) cb)
        have hYn := hY.out.far (p := ⟨w.heap.size + 1 + 1, 13, none⟩) (by dsimp only; omega) (.slice Qb (qn + 1) cb)
        have hon := own_far hown.out hX.out (by decide) 13 (.slice Qb (qn + 1) cb)
        have hin : Ints (w7.setCell ⟨w.heap.size + 1 + 1, 13, none⟩ (.slice Qb (qn + 1) cb)) B (some ⟨bv, ov, none⟩) vn vo := Reads.far hvI.out hX.out (by omega) (by decide) 13 _
        have q8 := q7.setCell (p := ⟨w.heap.size + 1 + 1, 13, none⟩) (by dsimp only; omega) (.slice Qb (qn + 1) cb)
        have hg8 : gD ≤ (w7.setCell ⟨w.heap.size + 1 + 1, 13, none⟩ (.slice Qb (qn + 1) cb)).heap.size := by simpa [World.setCell] using hg7
        have hon2 : (w7.setCell ⟨w.heap.size + 1 + 1, 13, none⟩ (.slice Qb (qn + 1) cb)).ownsRow gD 53 3 (.slice Qb (qn + 1) cb) (qn + 1) (prsL (((vo.take (k + 1)).filter (fun v => !(v == id))).map (fun v => ⟨v, la + 1, 0⟩))) := by
          rw [hft.out, List.map_append]
          unfold prsL at hon ⊢
          rw [List.flatMap_append]
          exact hon
        obtain ⟨w8, hw8⟩ : ∃ x, (w7.setCell ⟨w.heap.size + 1 + 1, 13, none⟩ (.slice Qb (qn + 1) cb)) = x := ⟨_, rfl⟩
        rw [hw8] at hXn hUn hYn hin hon2 q8 hg8 ⊢
        clear hw8 hX hU hY hown hvI q7 hg7 hon hft
        go_wp2
        go_roundw
        case rel => exact ⟨k + 1, qn + 1, cb, Qb, by go_num, by omega, q8, hg8, by omega, hid_mk hXn, hid_mk hon2, hid_mk hUn, hid_mk hYn, hid_mk hin⟩
        case measure => simp [intOf]; omega
    · obtain rfl : vn = k := by omega
      rw [List.take_of_length_le (by rw [hvl.out]; exact Nat.le_refl _), hPS.out] at hown
      clear hvI
      have hQ := Reads.of_own (B := B) hown.out
      have hqc : qn ≤ qc := own_cap hown.out
      have hok7 : Hid (NdOk wr B NB0 ⟨⟨RA, n, Rc⟩, ⟨VA, m, Vc⟩, ⟨none, 0, 0⟩, ⟨Qa, qn, qc⟩⟩) := by
        rw [hNBe.out]
        exact ⟨hN0.recs.to hb, hN0.rc, hN0.rb, hN0.vs.to hb, hN0.vc, hN0.vb, hN0.sb, Reads.none_, Nat.le_refl _, by dsimp only; omega, hQ, hqc, by dsimp only; omega⟩
      clear hQ hown
      have hEW7 := fun (w : World) (h0 : B ≤ w.heap.size) (k : NdOk w B NB0 ⟨⟨RA, n, Rc⟩, ⟨VA, m, Vc⟩, ⟨none, 0, 0⟩, ⟨Qa, qn, qc⟩⟩) (ht : Tab w) => hEW ⟨⟨RA, n, Rc⟩, ⟨VA, m, Vc⟩, ⟨none, 0, 0⟩, ⟨Qa, qn, qc⟩⟩ w h0 k hj.out ht
      rw [hNBe.out] at hEW7
      unfold nodeV recVal at hEW7
      dsimp only at hEW7
      rw [← hNBe.out] at hEW7
      clear hEW
      have u1 := hU.out.cell 1
      change _ = some (Value.int .i64 t) at u1
      have ul := hU.out.lt
      obtain ⟨xl, x0, x1, x2, x3, x4, x5, x6, x7, x8, x9, x10, x11, x12, x13, xf0, xf1, xf2, xf3, xf4, xf5, xf6, xf7, xf8, xf9, xf10, xf11, xf12, xf13⟩ := blk14f hX.out
      go_wp2_with fail
      clear xl x0 x1 x2 x3 x4 x5 x6 x7 x8 x9 x10 x11 x12 x13 xf0 xf1 xf2 xf3 xf4 xf5 xf6 xf7 xf8 xf9 xf10 xf11 xf12 xf13
      clear u1 ul hU
      refine (hEW7 _ (by omega) hok7.out (ht.to hb)).mono ?_
      rintro e w8 ⟨a8, rfl, hok8, hb1⟩
      unfold nodeV
      have q8 := (after (w := w) hb1 hb).1
      replace hX := hid_mk (hX.out.keep hb1)
      replace hY := hid_mk (hY.out.keep hb1)
      have hok7' := hid_mk (hok7.out.to hb1)
      replace hok8 := hid_mk hok8
      clear hb1 hEW7 hok7
      have z8 := q8.size
      replace hX := hid_mk (hX.out.alloc (.cells #[.int .i64 NW.id, .int .i64 NW.h.t, .int .i64 NW.h.v, .int .i64 NW.h.l.base, .int .i64 NW.h.l.bt, .slice a8.R.A a8.R.n a8.R.c, .string NW.h.s, .slice a8.V.A a8.V.n a8.V.c, .int .i64 NW.role, .int .i64 NW.lead, .int .i64 NW.timer, .int .i64 NW.commit, .slice a8.G.A a8.G.n a8.G.c, .slice a8.P.A a8.P.n a8.P.c] 30))
      replace hY := hid_mk (hY.out.alloc (.cells #[.int .i64 NW.id, .int .i64 NW.h.t, .int .i64 NW.h.v, .int .i64 NW.h.l.base, .int .i64 NW.h.l.bt, .slice a8.R.A a8.R.n a8.R.c, .string NW.h.s, .slice a8.V.A a8.V.n a8.V.c, .int .i64 NW.role, .int .i64 NW.lead, .int .i64 NW.timer, .int .i64 NW.commit, .slice a8.G.A a8.G.n a8.G.c, .slice a8.P.A a8.P.n a8.P.c] 30))
      obtain ⟨gM, hgM⟩ : ∃ g, w8.heap.size = g := ⟨_, rfl⟩
      have hM : Hid (Blk (w8.alloc (.cells #[.int .i64 NW.id, .int .i64 NW.h.t, .int .i64 NW.h.v, .int .i64 NW.h.l.base, .int .i64 NW.h.l.bt, .slice a8.R.A a8.R.n a8.R.c, .string NW.h.s, .slice a8.V.A a8.V.n a8.V.c, .int .i64 NW.role, .int .i64 NW.lead, .int .i64 NW.timer, .int .i64 NW.commit, .slice a8.G.A a8.G.n a8.G.c, .slice a8.P.A a8.P.n a8.P.c] 30)) gM 30 #[.int .i64 NW.id, .int .i64 NW.h.t, .int .i64 NW.h.v, .int .i64 NW.h.l.base, .int .i64 NW.h.l.bt, .slice a8.R.A a8.R.n a8.R.c, .string NW.h.s, .slice a8.V.A a8.V.n a8.V.c, .int .i64 NW.role, .int .i64 NW.lead, .int .i64 NW.timer, .int .i64 NW.commit, .slice a8.G.A a8.G.n a8.G.c, .slice a8.P.A a8.P.n a8.P.c]) := by rw [← hgM]; exact Blk.new _ _ _
      have hok7 : Hid (NdOk (w8.alloc (.cells #[.int .i64 NW.id, .int .i64 NW.h.t, .int .i64 NW.h.v, .int .i64 NW.h.l.base, .int .i64 NW.h.l.bt, .slice a8.R.A a8.R.n a8.R.c, .string NW.h.s, .slice a8.V.A a8.V.n a8.V.c, .int .i64 NW.role, .int .i64 NW.lead, .int .i64 NW.timer, .int .i64 NW.commit, .slice a8.G.A a8.G.n a8.G.c, .slice a8.P.A a8.P.n a8.P.c] 30)) B NB0 ⟨⟨RA, n, Rc⟩, ⟨VA, m, Vc⟩, ⟨none, 0, 0⟩, ⟨Qa, qn, qc⟩⟩) := hok7'.out.to (by go_grown)
      replace hok8 : Hid (NdOk (w8.alloc (.cells #[.int .i64 NW.id, .int .i64 NW.h.t, .int .i64 NW.h.v, .int .i64 NW.h.l.base, .int .i64 NW.h.l.bt, .slice a8.R.A a8.R.n a8.R.c, .string NW.h.s, .slice a8.V.A a8.V.n a8.V.c, .int .i64 NW.role, .int .i64 NW.lead, .int .i64 NW.timer, .int .i64 NW.commit, .slice a8.G.A a8.G.n a8.G.c, .slice a8.P.A a8.P.n a8.P.c] 30)) B NW a8) := hok8.out.to (by go_grown)
      have q9 : Below w.heap.size w (w8.alloc (.cells #[.int .i64 NW.id, .int .i64 NW.h.t, .int .i64 NW.h.v, .int .i64 NW.h.l.base, .int .i64 NW.h.l.bt, .slice a8.R.A a8.R.n a8.R.c, .string NW.h.s, .slice a8.V.A a8.V.n a8.V.c, .int .i64 NW.role, .int .i64 NW.lead, .int .i64 NW.timer, .int .i64 NW.commit, .slice a8.G.A a8.G.n a8.G.c, .slice a8.P.A a8.P.n a8.P.c] 30)) := by go_grown
      obtain ⟨w9, hw9⟩ : ∃ x, (w8.alloc (.cells #[.int .i64 NW.id, .int .i64 NW.h.t, .int .i64 NW.h.v, .int .i64 NW.h.l.base, .int .i64 NW.h.l.bt, .slice a8.R.A a8.R.n a8.R.c, .string NW.h.s, .slice a8.V.A a8.V.n a8.V.c, .int .i64 NW.role, .int .i64 NW.lead, .int .i64 NW.timer, .int .i64 NW.commit, .slice a8.G.A a8.G.n a8.G.c, .slice a8.P.A a8.P.n a8.P.c] 30)) = x := ⟨_, rfl⟩
      rw [hw9] at hX hY hM hok7 hok8 q9
      replace hw9 := hid_mk hw9
      replace hgM := hid_mk hgM
      clear hok7' q8
      go_upto_region 11 with fail
      rw [hw9.out, hgM.out]
      clear hw9 hgM z8
      have z9 := q9.size
      cases zh
      case false =>
        have hw := hid_mk (hWf.out (by first | rfl | trivial))
        go_upto_region 13 with fail
        obtain ⟨a9, hX9, hok9⟩ : ∃ a9 : NdA, Hid (Blk w9 (w.heap.size + 1 + 1) 30 #[.int .i64 W2.id, .int .i64 W2.h.t, .int .i64 W2.h.v, .int .i64 W2.h.l.base, .int .i64 W2.h.l.bt, .slice a9.R.A a9.R.n a9.R.c, .string W2.h.s, .slice a9.V.A a9.V.n a9.V.c, .int .i64 W2.role, .int .i64 W2.lead, .int .i64 W2.timer, .int .i64 W2.commit, .slice a9.G.A a9.G.n a9.G.c, .slice a9.P.A a9.P.n a9.P.c]) ∧ Hid (NdOk w9 B W2 a9) := ⟨⟨⟨RA, n, Rc⟩, ⟨VA, m, Vc⟩, ⟨none, 0, 0⟩, ⟨Qa, qn, qc⟩⟩, by rw [hw.out, hNBe.out]; exact hX, by rw [hw.out]; exact hok7⟩
        obtain ⟨wc, hwc⟩ : ∃ x, x = w9 := ⟨w9, rfl⟩
        subst hwc
        have qc9 := q9
        clear hok7 hok8 hM q9 z9
        try clear hX
        have hX := hX9
        clear hX9
        obtain ⟨NS, hNS⟩ : ∃ x, sureN W2 = x := ⟨_, rfl⟩
        have hES := fun (w : World) (k : NdOk w B W2 a9) => RSureN_any W2 a9 w k hy3.out
        have hrs := hid_mk (sure_right hy3.out)
        have hokS : Hid (NdOk wc B NS a9) := by
          rw [← hNS]
          have e := sure_same W2
          have h := hok9.out
          exact ⟨by rw [e.2.1]; exact h.recs, h.rc, h.rb, by rw [e.2.1]; exact h.vs, h.vc, h.vb, by rw [e.2.1]; exact h.sb, by rw [e.2.2.2.2.2.1]; exact h.got, h.gc, h.gb, by rw [e.2.2.2.2.2.2.1]; exact h.ps, h.pc, h.pb⟩
        rw [hNS] at hES hrs hy1 hy2
        replace hNS := hid_mk hNS
        unfold nodeV at hES
        have hSA := fun (w : World) (h0 : B ≤ w.heap.size) (k : NdOk w B NS a9) => RAll_any NS a9 w h0 k hrs.out
        unfold nodeV at hSA
        obtain ⟨LS, hLS⟩ : ∃ x, allM NS = x := ⟨_, rfl⟩
        rw [hLS] at hSA hy2
        replace hLS := hid_mk hLS
        obtain ⟨xl, x0, x1, x2, x3, x4, x5, x6, x7, x8, x9, x10, x11, x12, x13, xf0, xf1, xf2, xf3, xf4, xf5, xf6, xf7, xf8, xf9, xf10, xf11, xf12, xf13⟩ := blk14f hX.out
        go_wp2_with fail
        clear xl x0 x1 x2 x3 x4 x5 x6 x7 x8 x9 x10 x11 x12 x13 xf0 xf1 xf2 xf3 xf4 xf5 xf6 xf7 xf8 xf9 xf10 xf11 xf12 xf13
        refine (hES _ hok9.out).mono ?_
        rintro e w10 ⟨rfl, hb1⟩
        have q10 := (after (w := w) hb1 qc9).1
        replace hX := hid_mk (hX.out.keep hb1)
        replace hY := hid_mk (hY.out.keep hb1)
        replace hokS := hid_mk (hokS.out.to hb1)
        clear hb1 qc9 hES hok9
        obtain ⟨xl, x0, x1, x2, x3, x4, x5, x6, x7, x8, x9, x10, x11, x12, x13, xf0, xf1, xf2, xf3, xf4, xf5, xf6, xf7, xf8, xf9, xf10, xf11, xf12, xf13⟩ := blk14f hX.out
        go_upto_region 14 with fail
        clear xl x0 x1 x2 x3 x4 x5 x6 x7 x8 x9 x10 x11 x12 x13 xf0 xf1 xf2 xf3 xf4 xf5 xf6 xf7 xf8 xf9 xf10 xf11 xf12 xf13
        have hXn := set14_blk hX.out (.int .i64 NS.id) (.int .i64 NS.h.t) (.int .i64 NS.h.v) (.int .i64 NS.h.l.base) (.int .i64 NS.h.l.bt) (.slice a9.R.A a9.R.n a9.R.c) (.string NS.h.s) (.slice a9.V.A a9.V.n a9.V.c) (.int .i64 NS.role) (.int .i64 NS.lead) (.int .i64 NS.timer) (.int .i64 NS.commit) (.slice a9.G.A a9.G.n a9.G.c) (.slice a9.P.A a9.P.n a9.P.c)
        have hYn := set14_farS hY.out (by omega : w.heap.size + 1 ≠ w.heap.size + 1 + 1) (.int .i64 NS.id) (.int .i64 NS.h.t) (.int .i64 NS.h.v) (.int .i64 NS.h.l.base) (.int .i64 NS.h.l.bt) (.slice a9.R.A a9.R.n a9.R.c) (.string NS.h.s) (.slice a9.V.A a9.V.n a9.V.c) (.int .i64 NS.role) (.int .i64 NS.lead) (.int .i64 NS.timer) (.int .i64 NS.commit) (.slice a9.G.A a9.G.n a9.G.c) (.slice a9.P.A a9.P.n a9.P.c)
        have q11 := set14_below (.int .i64 NS.id) (.int .i64 NS.h.t) (.int .i64 NS.h.v) (.int .i64 NS.h.l.base) (.int .i64 NS.h.l.bt) (.slice a9.R.A a9.R.n a9.R.c) (.string NS.h.s) (.slice a9.V.A a9.V.n a9.V.c) (.int .i64 NS.role) (.int .i64 NS.lead) (.int .i64 NS.timer) (.int .i64 NS.commit) (.slice a9.G.A a9.G.n a9.G.c) (.slice a9.P.A a9.P.n a9.P.c) q10 (by omega : w.heap.size ≤ w.heap.size + 1 + 1)
        have hokn := nd_st14 hokS.out hX.out (by omega : B ≤ w.heap.size + 1 + 1) (.int .i64 NS.id) (.int .i64 NS.h.t) (.int .i64 NS.h.v) (.int .i64 NS.h.l.base) (.int .i64 NS.h.l.bt) (.slice a9.R.A a9.R.n a9.R.c) (.string NS.h.s) (.slice a9.V.A a9.V.n a9.V.c) (.int .i64 NS.role) (.int .i64 NS.lead) (.int .i64 NS.timer) (.int .i64 NS.commit) (.slice a9.G.A a9.G.n a9.G.c) (.slice a9.P.A a9.P.n a9.P.c)
        obtain ⟨w11, hw11⟩ : ∃ x, set14 w10 (w.heap.size + 1 + 1) (.int .i64 NS.id) (.int .i64 NS.h.t) (.int .i64 NS.h.v) (.int .i64 NS.h.l.base) (.int .i64 NS.h.l.bt) (.slice a9.R.A a9.R.n a9.R.c) (.string NS.h.s) (.slice a9.V.A a9.V.n a9.V.c) (.int .i64 NS.role) (.int .i64 NS.lead) (.int .i64 NS.timer) (.int .i64 NS.commit) (.slice a9.G.A a9.G.n a9.G.c) (.slice a9.P.A a9.P.n a9.P.c) = x := ⟨_, rfl⟩
        rw [hw11] at hXn hYn q11 hokn
        unfold set14 at hw11
        rw [hw11]
        clear hw11 hX hY hokS q10
        have hX := hid_mk hXn
        have hY := hid_mk hYn
        have hokS := hid_mk hokn
        clear hXn hYn hokn
        refine wp_region_T' (fun w' => w'.cell? ⟨w.heap.size + 1 + 1, 0, none⟩ = some (.int .i64 NS.id) ∧ w'.cell? ⟨w.heap.size + 1 + 1, 1, none⟩ = some (.int .i64 NS.h.t) ∧ w'.cell? ⟨w.heap.size + 1 + 1, 2, none⟩ = some (.int .i64 NS.h.v) ∧ w'.cell? ⟨w.heap.size + 1 + 1, 3, none⟩ = some (.int .i64 NS.h.l.base) ∧ w'.cell? ⟨w.heap.size + 1 + 1, 4, none⟩ = some (.int .i64 NS.h.l.bt) ∧ w'.cell? ⟨w.heap.size + 1 + 1, 5, none⟩ = some (.slice a9.R.A a9.R.n a9.R.c) ∧ w'.cell? ⟨w.heap.size + 1 + 1, 6, none⟩ = some (.string NS.h.s) ∧ w'.cell? ⟨w.heap.size + 1 + 1, 7, none⟩ = some (.slice a9.V.A a9.V.n a9.V.c) ∧ w'.cell? ⟨w.heap.size + 1 + 1, 8, none⟩ = some (.int .i64 NS.role) ∧ w'.cell? ⟨w.heap.size + 1 + 1, 9, none⟩ = some (.int .i64 NS.lead) ∧ w'.cell? ⟨w.heap.size + 1 + 1, 10, none⟩ = some (.int .i64 NS.timer) ∧ w'.cell? ⟨w.heap.size + 1 + 1, 11, none⟩ = some (.int .i64 NS.commit) ∧ w'.cell? ⟨w.heap.size + 1 + 1, 12, none⟩ = some (.slice a9.G.A a9.G.n a9.G.c) ∧ w'.cell? ⟨w.heap.size + 1 + 1, 13, none⟩ = some (.slice a9.P.A a9.P.n a9.P.c)) (fun j => decide (j < 5)) 5 (by kernel_rfl) (by kernel_rfl) (by exact ⟨hX.out.cell 0, hX.out.cell 1, hX.out.cell 2, hX.out.cell 3, hX.out.cell 4, hX.out.cell 5, hX.out.cell 6, hX.out.cell 7, hX.out.cell 8, hX.out.cell 9, hX.out.cell 10, hX.out.cell 11, hX.out.cell 12, hX.out.cell 13⟩) (fun hS0 => ?_)
        replace hX := hid_mk hX.out.drew
        replace hY := hid_mk hY.out.drew
        replace hokS := hid_mk (hokS.out.to (show Below w11.heap.size w11 w11.drew by go_grown))
        have qd : Below w.heap.size w w11.drew := by go_grown
        obtain ⟨wd, hwd⟩ : ∃ x, w11.drew = x := ⟨_, rfl⟩
        rw [hwd] at hS0 hX hY hokS qd ⊢
        clear hwd q11
        have zd := qd.size
        refine wpAnyT_take (i := 0) rfl (by kernel_rfl) (by kernel_rfl) (by kernel_rfl) rfl (by kernel_rfl) (fun _ _ _ h => h) (by kernel_rfl) (fun w' hS => (by obtain ⟨s0, s1, s2, s3, s4, s5, s6, s7, s8, s9, s10, s11, s12, s13⟩ := hS; go_simp; try with_reducible rfl)) hS0 ?_
        simp only [Act.put]
        refine wpAnyT_take (i := 1) rfl (by kernel_rfl) (by kernel_rfl) (by kernel_rfl) rfl (by kernel_rfl) (fun _ _ _ h => h) (by kernel_rfl) (fun w' hS => (by obtain ⟨s0, s1, s2, s3, s4, s5, s6, s7, s8, s9, s10, s11, s12, s13⟩ := hS; go_simp; try with_reducible rfl)) hS0 ?_
        simp only [Act.put]
        refine wpAnyT_one (i := 2) (by kernel_rfl) rfl (fun K hK => ?_)
        go_simp
        refine (hSA _ (by omega) hokS.out).mono ?_
        rintro e w12 ⟨LA, ln, lc, pm, rfl, hMg, hpm, hlc, hb1⟩
        have q12 := (after (w := w) hb1 qd).1
        replace hX := hid_mk (hX.out.keep hb1)
        replace hY := hid_mk (hY.out.keep hb1)
        replace hokS := hid_mk (hokS.out.to hb1)
        replace hMg := hid_mk hMg
        replace hpm := hid_mk hpm
        clear hb1 qd
        refine hK.out _ _ (fun _ => ⟨hX.out.cell 0, hX.out.cell 1, hX.out.cell 2, hX.out.cell 3, hX.out.cell 4, hX.out.cell 5, hX.out.cell 6, hX.out.cell 7, hX.out.cell 8, hX.out.cell 9, hX.out.cell 10, hX.out.cell 11, hX.out.cell 12, hX.out.cell 13⟩) ?_
        clear hK K
        try simp only [Act.put]
        obtain ⟨yl, y0, y1, y2, y3, y4, y5, y6, y7, y8, y9, y10, y11, y12, y13, yf0, yf1, yf2, yf3, yf4, yf5, yf6, yf7, yf8, yf9, yf10, yf11, yf12, yf13⟩ := blk14f hY.out
        refine wpAnyT_one (i := 3) (by kernel_rfl) rfl (fun K hK => ?_)
        go_simp
        clear yl y0 y1 y2 y3 y4 y5 y6 y7 y8 y9 y10 y11 y12 y13 yf0 yf1 yf2 yf3 yf4 yf5 yf6 yf7 yf8 yf9 yf10 yf11 yf12 yf13
        have hMz := mgs_st14 hMg.out hY.out (by omega) (.int .i64 NS.id) (.int .i64 NS.h.t) (.int .i64 NS.h.v) (.int .i64 NS.h.l.base) (.int .i64 NS.h.l.bt) (.slice a9.R.A a9.R.n a9.R.c) (.string NS.h.s) (.slice a9.V.A a9.V.n a9.V.c) (.int .i64 NS.role) (.int .i64 NS.lead) (.int .i64 NS.timer) (.int .i64 NS.commit) (.slice a9.G.A a9.G.n a9.G.c) (.slice a9.P.A a9.P.n a9.P.c)
        have hokz := nd_st14 hokS.out hY.out (by omega) (.int .i64 NS.id) (.int .i64 NS.h.t) (.int .i64 NS.h.v) (.int .i64 NS.h.l.base) (.int .i64 NS.h.l.bt) (.slice a9.R.A a9.R.n a9.R.c) (.string NS.h.s) (.slice a9.V.A a9.V.n a9.V.c) (.int .i64 NS.role) (.int .i64 NS.lead) (.int .i64 NS.timer) (.int .i64 NS.commit) (.slice a9.G.A a9.G.n a9.G.c) (.slice a9.P.A a9.P.n a9.P.c)
        replace hX := hid_mk (set14_farS hX.out (by omega : w.heap.size + 1 + 1 ≠ w.heap.size + 1) (.int .i64 NS.id) (.int .i64 NS.h.t) (.int .i64 NS.h.v) (.int .i64 NS.h.l.base) (.int .i64 NS.h.l.bt) (.slice a9.R.A a9.R.n a9.R.c) (.string NS.h.s) (.slice a9.V.A a9.V.n a9.V.c) (.int .i64 NS.role) (.int .i64 NS.lead) (.int .i64 NS.timer) (.int .i64 NS.commit) (.slice a9.G.A a9.G.n a9.G.c) (.slice a9.P.A a9.P.n a9.P.c))
        have qz := set14_below (.int .i64 NS.id) (.int .i64 NS.h.t) (.int .i64 NS.h.v) (.int .i64 NS.h.l.base) (.int .i64 NS.h.l.bt) (.slice a9.R.A a9.R.n a9.R.c) (.string NS.h.s) (.slice a9.V.A a9.V.n a9.V.c) (.int .i64 NS.role) (.int .i64 NS.lead) (.int .i64 NS.timer) (.int .i64 NS.commit) (.slice a9.G.A a9.G.n a9.G.c) (.slice a9.P.A a9.P.n a9.P.c) q12 (by omega : w.heap.size ≤ w.heap.size + 1)
        replace hY := hid_mk (set14_blk hY.out (.int .i64 NS.id) (.int .i64 NS.h.t) (.int .i64 NS.h.v) (.int .i64 NS.h.l.base) (.int .i64 NS.h.l.bt) (.slice a9.R.A a9.R.n a9.R.c) (.string NS.h.s) (.slice a9.V.A a9.V.n a9.V.c) (.int .i64 NS.role) (.int .i64 NS.lead) (.int .i64 NS.timer) (.int .i64 NS.commit) (.slice a9.G.A a9.G.n a9.G.c) (.slice a9.P.A a9.P.n a9.P.c))
        obtain ⟨wz, hwz⟩ : ∃ x, set14 w12 (w.heap.size + 1) (.int .i64 NS.id) (.int .i64 NS.h.t) (.int .i64 NS.h.v) (.int .i64 NS.h.l.base) (.int .i64 NS.h.l.bt) (.slice a9.R.A a9.R.n a9.R.c) (.string NS.h.s) (.slice a9.V.A a9.V.n a9.V.c) (.int .i64 NS.role) (.int .i64 NS.lead) (.int .i64 NS.timer) (.int .i64 NS.commit) (.slice a9.G.A a9.G.n a9.G.c) (.slice a9.P.A a9.P.n a9.P.c) = x := ⟨_, rfl⟩
        rw [hwz] at hX hY hMz hokz qz
        unfold set14 at hwz
        rw [hwz]
        clear hwz
        refine hK.out _ _ (fun _ => ⟨hX.out.cell 0, hX.out.cell 1, hX.out.cell 2, hX.out.cell 3, hX.out.cell 4, hX.out.cell 5, hX.out.cell 6, hX.out.cell 7, hX.out.cell 8, hX.out.cell 9, hX.out.cell 10, hX.out.cell 11, hX.out.cell 12, hX.out.cell 13⟩) ?_
        clear hK K
        try simp only [Act.put]
        refine wpAnyT_one (i := 4) (by kernel_rfl) rfl (fun K hK => ?_)
        go_simp
        refine hK.out _ _ (fun _ => ⟨hX.out.cell 0, hX.out.cell 1, hX.out.cell 2, hX.out.cell 3, hX.out.cell 4, hX.out.cell 5, hX.out.cell 6, hX.out.cell 7, hX.out.cell 8, hX.out.cell 9, hX.out.cell 10, hX.out.cell 11, hX.out.cell 12, hX.out.cell 13⟩) ?_
        clear hK K
        try simp only [Act.put]
        refine wpAnyT_done (by kernel_rfl) ?_ _
        obtain ⟨_, y0, y1, y2, y3, y4, y5, y6, y7, y8, y9, y10, y11, y12, y13⟩ := blk14c hY.out
        go_wp2
        refine ends_ret hQ (v := .tuple #[.agg #[.int .i64 NS.id, .int .i64 NS.h.t, .int .i64 NS.h.v, .int .i64 NS.h.l.base, .int .i64 NS.h.l.bt, .slice a9.R.A a9.R.n a9.R.c, .string NS.h.s, .slice a9.V.A a9.V.n a9.V.c, .int .i64 NS.role, .int .i64 NS.lead, .int .i64 NS.timer, .int .i64 NS.commit, .slice a9.G.A a9.G.n a9.G.c, .slice a9.P.A a9.P.n a9.P.c], .slice LA ln lc]) (by simp [results, Tryz.results27, go_sem, y0, y1, y2, y3, y4, y5, y6, y7, y8, y9, y10, y11, y12, y13]) rfl ?_
        exact ⟨a9, LA, ln, lc, pm, by rw [hy1.out]; rfl, by rw [hy1.out]; exact hokz, hMz, by rw [hy2.out]; exact hpm.out, hlc, qz⟩
      case true =>
        exact absurd hB.out (by decide)
set_option maxRecDepth 100000 in
set_option maxHeartbeats 12800000 in
theorem RLead3_any (N : Nd) (a : NdA) (w : World) {B : Nat} (hBw : B ≤ w.heap.size) (hN : NdOk w B N a) (ht : Tab w) (hr0 : rightN N = true) (hA : N.role = 1) (hB : rightH (withH N.h ⟨N.h.t, 0, ⟨#[]⟩⟩) = true) :
    Calls Tryz.prog 27 #[nodeV N a] w (RetNMs w B (leadN N) (leadL N)) := by
  have hzr : rightN N = true := hr0
  obtain ⟨vo, hvo⟩ : ∃ x, votersN N = x := ⟨_, rfl⟩
  obtain ⟨la, hla⟩ : ∃ x, lastJ N.h.l = x := ⟨_, rfl⟩
  obtain ⟨NL, hNL⟩ : ∃ x, leadN N = x := ⟨_, rfl⟩
  obtain ⟨LL, hLL⟩ : ∃ x, leadL N = x := ⟨_, rfl⟩
  obtain ⟨W2, hW2⟩ : ∃ x, leadW N = x := ⟨_, rfl⟩
  obtain ⟨zh, hzh⟩ : ∃ z, rightH (withH N.h ⟨N.h.t, 0, ⟨#[]⟩⟩) = z := ⟨_, rfl⟩
  obtain ⟨NB0, hNB0⟩ : ∃ x, leadB N = x := ⟨_, rfl⟩
  obtain ⟨NW, hNW⟩ : ∃ x, hdN (leadB N) (withH N.h ⟨N.h.t, 0, ⟨#[]⟩⟩) = x := ⟨_, rfl⟩
  rw [hzh] at hB
  have hno : Hid ((N.role == 1) = false → NL = N ∧ LL = []) := fun e => by
    have hc : leadC N = false := by unfold leadC; rw [hzr, Bool.true_and]; exact e
    rw [← hNL, ← hLL]
    unfold leadN leadL
    rw [hc]
    exact ⟨rfl, rfl⟩
  have hyes : Hid ((N.role == 1) = true → NL = sureN W2 ∧ LL = allM (sureN W2) ∧ rightN W2 = true) := fun e => by
    have hc : leadC N = true := by unfold leadC; rw [hzr, Bool.true_and]; exact e
    have e' : N.role = 1 := by simpa using e
    rw [← hNL, ← hLL, ← hW2]
    unfold leadN leadL
    rw [hc]
    exact ⟨rfl, rfl, (lead_right hzr e').1⟩
  have hWt : Hid (zh = true → W2 = NW) := fun e => by
    rw [← hW2, ← hNW]
    unfold leadW
    rw [hzh, if_pos e]
  have hWf : Hid (zh = false → W2 = NB0) := fun e => by
    rw [← hW2, ← hNB0]
    unfold leadW
    rw [hzh, if_neg (by rw [e]; exact Bool.false_ne_true)]
  have hn0 := right_n hr0
  have hcb0 := commit_bounds hr0
  have hj : Hid (rightJ N.h.l = true) := hn0.1
  have hvr : Hid (rightL vo = true) := by rw [← hvo]; exact of_right N.h.l.base N.h.l.rs hn0.2.1
  have hla0 : 0 ≤ la := by omega
  have hla1 : la ≤ 1073741824 := by omega
  have hv7a : a.V.n ≤ 7 := by
    have h1 := hN.vs.len
    have h2 := (right_len hn0.2.1).2
    omega
  have hb0 := nd_rn hN
  have hVO := fun (w : World) (k : NdOk w B N a) => NVoters_any N a w k (by omega)
  rw [hvo] at hVO
  have hEW := fun (a' : NdA) (w : World) (h0 : B ≤ w.heap.size) (k : NdOk w B NB0 a') (hj : rightJ N.h.l = true) (ht : Tab w) => RWith_any NB0 a' ⟨N.h.t, 0, ⟨#[]⟩⟩ w h0 k (by rw [← hNB0]; exact hj) ht
  have e1 : hdN NB0 (withH NB0.h ⟨N.h.t, 0, ⟨#[]⟩⟩) = NW := by rw [← hNW, ← hNB0]; rfl
  have e2 : rightH (withH NB0.h ⟨N.h.t, 0, ⟨#[]⟩⟩) = zh := by rw [← hzh, ← hNB0]; rfl
  rw [e1, e2] at hEW
  have hNBe : Hid (NB0 = ⟨N.id, N.h, 2, N.id, 2, N.commit, [], peersF vo N.id (la + 1) []⟩) := by
    rw [Hid, ← hNB0, ← hvo, ← hla]
    rfl
  have hEL := fun (w : World) (k : NdOk w B N a) => RLastN_any N a w k hn0.1
  rw [hla] at hEL
  rw [hNL, hLL]
  obtain ⟨PS, hPS⟩ : ∃ x, peersF vo N.id (la + 1) [] = x := ⟨_, rfl⟩
  rw [hPS] at hNBe
  rw [peersF_nil] at hPS
  replace hPS := hid_mk hPS
  clear hNL hLL hW2 hzh hNB0 hNW e1 e2 hzr hla hvo hn0 hcb0 hb0
  have hN0 := hN
  obtain ⟨id, ⟨t, v, ⟨base, bt, rs⟩, s, vs⟩, role, lead, timer, commit, got, ps⟩ := N
  obtain ⟨⟨RA, n, Rc⟩, ⟨VA, m, Vc⟩, ⟨GA, gn, Gc⟩, ⟨PA, pn, Pc⟩⟩ := a
  unfold nodeV at hEL hVO
  dsimp only at hno hyes hEW hNBe hEL hPS hVO hj hv7a hA hB
  replace hA := hid_mk hA
  replace hB := hid_mk hB
  have hU := hid_mk ((Blk.new w 30 #[.int .i64 id, .int .i64 t, .int .i64 v, .int .i64 base, .int .i64 bt, .slice RA n Rc, .string s, .slice VA m Vc, .int .i64 role, .int .i64 lead, .int .i64 timer, .int .i64 commit, .slice GA gn Gc, .slice PA pn Pc]).alloc (.cells #[.int .i64 0, .int .i64 0, .int .i64 0, .int .i64 0, .int .i64 0, .slice none 0 0, .string ⟨#[]⟩, .slice none 0 0, .int .i64 0, .int .i64 0, .int .i64 0, .int .i64 0, .slice none 0 0, .slice none 0 0] 30))
  have hY : Hid (Blk ((w.alloc (.cells #[.int .i64 id, .int .i64 t, .int .i64 v, .int .i64 base, .int .i64 bt, .slice RA n Rc, .string s, .slice VA m Vc, .int .i64 role, .int .i64 lead, .int .i64 timer, .int .i64 commit, .slice GA gn Gc, .slice PA pn Pc] 30)).alloc (.cells #[.int .i64 0, .int .i64 0, .int .i64 0, .int .i64 0, .int .i64 0, .slice none 0 0, .string ⟨#[]⟩, .slice none 0 0, .int .i64 0, .int .i64 0, .int .i64 0, .int .i64 0, .slice none 0 0, .slice none 0 0] 30)) (w.heap.size + 1) 30 #[.int .i64 0, .int .i64 0, .int .i64 0, .int .i64 0, .int .i64 0, .slice none 0 0, .string ⟨#[]⟩, .slice none 0 0, .int .i64 0, .int .i64 0, .int .i64 0, .int .i64 0, .slice none 0 0, .slice none 0 0]) := Blk.new_ (by simp)
  have q0 : Below w.heap.size w ((w.alloc (.cells #[.int .i64 id, .int .i64 t, .int .i64 v, .int .i64 base, .int .i64 bt, .slice RA n Rc, .string s, .slice VA m Vc, .int .i64 role, .int .i64 lead, .int .i64 timer, .int .i64 commit, .slice GA gn Gc, .slice PA pn Pc] 30)).alloc (.cells #[.int .i64 0, .int .i64 0, .int .i64 0, .int .i64 0, .int .i64 0, .slice none 0 0, .string ⟨#[]⟩, .slice none 0 0, .int .i64 0, .int .i64 0, .int .i64 0, .int .i64 0, .slice none 0 0, .slice none 0 0] 30)) := by go_grown
  show Calls Tryz.prog 27 #[.agg #[.int .i64 id, .int .i64 t, .int .i64 v, .int .i64 base, .int .i64 bt, .slice RA n Rc, .string s, .slice VA m Vc, .int .i64 role, .int .i64 lead, .int .i64 timer, .int .i64 commit, .slice GA gn Gc, .slice PA pn Pc]] w _
  refine calls_of_wpQ Tryz.func27 rfl ?_
  intro Q hQ
  simp only [Tryz.ntmps27, List.size_toArray, List.length_cons, List.length_nil, Nat.reduceAdd, Nat.reduceSub, Array.replicate_succ, Array.replicate_zero, List.push_toArray, List.append_toArray, List.nil_append, List.cons_append]
  go_upto_region 1 with fail
  obtain ⟨w0, hw0⟩ : ∃ x, (w.alloc (.cells #[.int .i64 id, .int .i64 t, .int .i64 v, .int .i64 base, .int .i64 bt, .slice RA n Rc, .string s, .slice VA m Vc, .int .i64 role, .int .i64 lead, .int .i64 timer, .int .i64 commit, .slice GA gn Gc, .slice PA pn Pc] 30)).alloc (.cells #[.int .i64 0, .int .i64 0, .int .i64 0, .int .i64 0, .int .i64 0, .slice none 0 0, .string ⟨#[]⟩, .slice none 0 0, .int .i64 0, .int .i64 0, .int .i64 0, .int .i64 0, .slice none 0 0, .slice none 0 0] 30) = x := ⟨_, rfl⟩
  rw [hw0] at hU hY q0
  try rw [hw0]
  have hsz0 : w0.heap.size = w.heap.size + 1 + 1 := by rw [← hw0]; simp
  clear hw0
  replace hsz0 := hid_mk hsz0
  by_cases g1 : role = 1
  case neg =>
    have g1' : (role != 1) = true := by simpa using g1
    have g1n := hid_mk (show (role == 1) = false by simpa using g1)
    replace g1 := hid_mk g1
    exact absurd hA.out g1.out
  have g1' : (role != 1) = false := by simpa using g1
  obtain ⟨hy1, hy2, hy3⟩ := hyes.out (by simpa using g1)
  replace hy1 := hid_mk hy1
  replace hy2 := hid_mk hy2
  replace hy3 := hid_mk hy3
  replace g1 := hid_mk g1
  clear hno hyes
  obtain ⟨ul, u0, u1, u2, u3, u4, u5, u6, u7, u8, u9, u10, u11, u12, u13, uf0, uf1, uf2, uf3, uf4, uf5, uf6, uf7, uf8, uf9, uf10, uf11, uf12, uf13⟩ := blk14f hU.out
  have z0 := q0.size
  go_upto_region 4 with fail
  clear ul u0 u1 u2 u3 u4 u5 u6 u7 u8 u9 u10 u11 u12 u13 uf0 uf1 uf2 uf3 uf4 uf5 uf6 uf7 uf8 uf9 uf10 uf11 uf12 uf13
  have hX : Hid (Blk (w0.alloc (.cells #[.int .i64 id, .int .i64 t, .int .i64 v, .int .i64 base, .int .i64 bt, .slice RA n Rc, .string s, .slice VA m Vc, .int .i64 2, .int .i64 id, .int .i64 2, .int .i64 commit, .slice none 0 0, .slice none 0 0] 30)) (w.heap.size + 1 + 1) 30 #[.int .i64 id, .int .i64 t, .int .i64 v, .int .i64 base, .int .i64 bt, .slice RA n Rc, .string s, .slice VA m Vc, .int .i64 2, .int .i64 id, .int .i64 2, .int .i64 commit, .slice none 0 0, .slice none 0 0]) := by rw [← hsz0.out]; exact Blk.new _ _ _
  replace hU := hid_mk (hU.out.alloc (.cells #[.int .i64 id, .int .i64 t, .int .i64 v, .int .i64 base, .int .i64 bt, .slice RA n Rc, .string s, .slice VA m Vc, .int .i64 2, .int .i64 id, .int .i64 2, .int .i64 commit, .slice none 0 0, .slice none 0 0] 30))
  replace hY := hid_mk (hY.out.alloc (.cells #[.int .i64 id, .int .i64 t, .int .i64 v, .int .i64 base, .int .i64 bt, .slice RA n Rc, .string s, .slice VA m Vc, .int .i64 2, .int .i64 id, .int .i64 2, .int .i64 commit, .slice none 0 0, .slice none 0 0] 30))
  have q1 : Below w.heap.size w (w0.alloc (.cells #[.int .i64 id, .int .i64 t, .int .i64 v, .int .i64 base, .int .i64 bt, .slice RA n Rc, .string s, .slice VA m Vc, .int .i64 2, .int .i64 id, .int .i64 2, .int .i64 commit, .slice none 0 0, .slice none 0 0] 30)) := by go_grown
  obtain ⟨w1, hw1⟩ : ∃ x, w0.alloc (.cells #[.int .i64 id, .int .i64 t, .int .i64 v, .int .i64 base, .int .i64 bt, .slice RA n Rc, .string s, .slice VA m Vc, .int .i64 2, .int .i64 id, .int .i64 2, .int .i64 commit, .slice none 0 0, .slice none 0 0] 30) = x := ⟨_, rfl⟩
  rw [hw1] at hX hU hY q1
  try rw [hw1]
  try rw [hsz0.out]
  clear hw1 q0
  obtain ⟨ul, u0, u1, u2, u3, u4, u5, u6, u7, u8, u9, u10, u11, u12, u13, uf0, uf1, uf2, uf3, uf4, uf5, uf6, uf7, uf8, uf9, uf10, uf11, uf12, uf13⟩ := blk14f hU.out
  go_wp2_with fail
  clear ul u0 u1 u2 u3 u4 u5 u6 u7 u8 u9 u10 u11 u12 u13 uf0 uf1 uf2 uf3 uf4 uf5 uf6 uf7 uf8 uf9 uf10 uf11 uf12 uf13
  refine (hVO _ (hN0.to q1)).mono ?_
  rintro e w2 ⟨VA2, vn, vc, rfl, hvI, hvn, hb1⟩
  have q2 := (after (w := w) hb1 q1).1
  replace hX := hid_mk (hX.out.keep hb1)
  replace hU := hid_mk (hU.out.keep hb1)
  replace hY := hid_mk (hY.out.keep hb1)
  have hv7 : vn ≤ 7 := by
    have h1 := hvI.len
    have h2 := (right_len hvr.out).2
    omega
  replace hvI := hid_mk hvI
  clear hb1 q1
  obtain ⟨gD, hgD⟩ : ∃ g, w2.heap.size = g := ⟨_, rfl⟩
  have hyD : w.heap.size + 1 + 1 < gD := by rw [← hgD]; exact hX.out.lt
  replace hgD := hid_mk hgD
  obtain ⟨i0, hi0, hz0, hz1, hz2⟩ := info_parts prInfo
  have hvl := hid_mk hvI.out.len
  go_wp2
  go_loopw [25] (fun iv wr => ∃ (k qn qc : Nat) (Qa : Option Addr), iv = .int .i64 k ∧ k ≤ vn ∧ Below w.heap.size w wr ∧ gD ≤ wr.heap.size ∧ qn ≤ k ∧ Hid (Blk wr (w.heap.size + 1 + 1) 30 #[.int .i64 id, .int .i64 t, .int .i64 v, .int .i64 base, .int .i64 bt, .slice RA n Rc, .string s, .slice VA m Vc, .int .i64 2, .int .i64 id, .int .i64 2, .int .i64 commit, .slice none 0 0, .slice Qa qn qc]) ∧ Hid (wr.ownsRow gD 53 3 (.slice Qa qn qc) qn (prsL (((vo.take k).filter (fun v => !(v == id))).map (fun v => ⟨v, la + 1, 0⟩)))) ∧ Hid (Blk wr (w.heap.size) 30 #[.int .i64 id, .int .i64 t, .int .i64 v, .int .i64 base, .int .i64 bt, .slice RA n Rc, .string s, .slice VA m Vc, .int .i64 role, .int .i64 lead, .int .i64 timer, .int .i64 commit, .slice GA gn Gc, .slice PA pn Pc]) ∧ Hid (Blk wr (w.heap.size + 1) 30 #[.int .i64 0, .int .i64 0, .int .i64 0, .int .i64 0, .int .i64 0, .slice none 0 0, .string ⟨#[]⟩, .slice none 0 0, .int .i64 0, .int .i64 0, .int .i64 0, .int .i64 0, .slice none 0 0, .slice none 0 0]) ∧ Hid (Ints wr B VA2 vn vo)) (fun iv _ => vn - (intOf iv).toNat)
  case atStart => exact ⟨0, 0, 0, none, rfl, Nat.zero_le _, q2, by rw [← hgD.out]; exact Nat.le_refl _, Nat.zero_le _, hX, World.ownsRow_nil _ _ _ _, hU, hY, hvI⟩
  case round =>
    clear hX hU hY hvI q2
    obtain ⟨k, qn, qc, Qa, rfl, hk, hb, hgw, hqk, hX, hown, hU, hY, hvI⟩ := hrel
    have zr := hb.size
    by_cases hkn : k < vn
    · obtain ⟨bv, ov, x, hA, hbv, hdx, cx⟩ := hvI.out.at_ hkn
      subst hA
      have hft := hid_mk (filt_take (self := id) hdx.out)
      replace hdx := hid_mk hdx
      have u0 := hU.out.cell 0
      change _ = some (Value.int .i64 id) at u0
      have ul := hU.out.lt
      by_cases hx : x = id
      · have hxb : (x != id) = false := by simpa using hx
        have hown2 : Hid (wr.ownsRow gD 53 3 (.slice Qa qn qc) qn (prsL (((vo.take (k + 1)).filter (fun v => !(v == id))).map (fun v => ⟨v, la + 1, 0⟩)))) := by
          rw [hft.out, if_pos hx, List.append_nil]
          exact hown
        replace hx := hid_mk hx
        go_wp2
        go_roundw
        case rel => exact ⟨k + 1, qn, qc, Qa, by go_num, by omega, hb, hgw, by omega, hX, hown2, hU, hY, hvI⟩
        case measure => simp [intOf]; omega
      · have hxb : (x != id) = true := by simpa using hx
        rw [if_neg hx] at hft
        replace hx := hid_mk hx
        go_upto_region 8 with fail
        clear u0 ul
        refine wp_region_T' (fun w' => w'.cell? ⟨w.heap.size + 1 + 1, 13, none⟩ = some (.slice Qa qn qc) ∧ w'.cell? ⟨w.heap.size, 0, none⟩ = some (.int .i64 id) ∧ w'.cell? ⟨w.heap.size, 1, none⟩ = some (.int .i64 t) ∧ w'.cell? ⟨w.heap.size, 2, none⟩ = some (.int .i64 v) ∧ w'.cell? ⟨w.heap.size, 3, none⟩ = some (.int .i64 base) ∧ w'.cell? ⟨w.heap.size, 4, none⟩ = some (.int .i64 bt) ∧ w'.cell? ⟨w.heap.size, 5, none⟩ = some (.slice RA n Rc) ∧ w'.cell? ⟨w.heap.size, 6, none⟩ = some (.string s) ∧ w'.cell? ⟨w.heap.size, 7, none⟩ = some (.slice VA m Vc) ∧ w'.cell? ⟨w.heap.size, 8, none⟩ = some (.int .i64 role) ∧ w'.cell? ⟨w.heap.size, 9, none⟩ = some (.int .i64 lead) ∧ w'.cell? ⟨w.heap.size, 10, none⟩ = some (.int .i64 timer) ∧ w'.cell? ⟨w.heap.size, 11, none⟩ = some (.int .i64 commit) ∧ w'.cell? ⟨w.heap.size, 12, none⟩ = some (.slice GA gn Gc) ∧ w'.cell? ⟨w.heap.size, 13, none⟩ = some (.slice PA pn Pc)) (fun j => decide (j < 10)) 11 (by kernel_rfl) (by kernel_rfl) (by exact ⟨hX.out.cell 13, hU.out.cell 0, hU.out.cell 1, hU.out.cell 2, hU.out.cell 3, hU.out.cell 4, hU.out.cell 5, hU.out.cell 6, hU.out.cell 7, hU.out.cell 8, hU.out.cell 9, hU.out.cell 10, hU.out.cell 11, hU.out.cell 12, hU.out.cell 13⟩) (fun hS0 => ?_)
        replace hX := hid_mk hX.out.drew
        replace hU := hid_mk hU.out.drew
        replace hY := hid_mk hY.out.drew
        replace hown := hid_mk hown.out.drew
        replace hvI : Hid (Ints wr.drew B (some ⟨bv, ov, none⟩) vn vo) := hvI.out.to (by go_grown)
        have qd : Below w.heap.size w wr.drew := by go_grown
        have hgd : gD ≤ wr.drew.heap.size := hgw
        obtain ⟨wd, hwd⟩ : ∃ x, wr.drew = x := ⟨_, rfl⟩
        rw [hwd] at hS0 hX hU hY hown hvI qd hgd ⊢
        clear hwd cx
        refine wpAnyT_take (i := 0) rfl (by kernel_rfl) (by kernel_rfl) (by kernel_rfl) rfl (by kernel_rfl) (fun _ _ _ h => h) (by kernel_rfl) (fun w' hS => (by obtain ⟨s13, t0, t1, t2, t3, t4, t5, t6, t7, t8, t9, t10, t11, t12, t13⟩ := hS; go_simp; try with_reducible rfl)) hS0 ?_
        simp only [Act.put]
        refine wpAnyT_take (i := 1) rfl (by kernel_rfl) (by kernel_rfl) (by kernel_rfl) rfl (by kernel_rfl) (fun _ _ _ h => h) (by kernel_rfl) (fun w' hS => (by obtain ⟨s13, t0, t1, t2, t3, t4, t5, t6, t7, t8, t9, t10, t11, t12, t13⟩ := hS; go_simp; try with_reducible rfl)) hS0 ?_
        simp only [Act.put]
        refine wpAnyT_take (i := 2) rfl (by kernel_rfl) (by kernel_rfl) (by kernel_rfl) rfl (by kernel_rfl) (fun _ _ _ h => h) (by kernel_rfl) (fun w' hS => (by obtain ⟨s13, t0, t1, t2, t3, t4, t5, t6, t7, t8, t9, t10, t11, t12, t13⟩ := hS; go_simp; try with_reducible rfl)) hS0 ?_
        simp only [Act.put]
        refine wpAnyT_take (i := 3) rfl (by kernel_rfl) (by kernel_rfl) (by kernel_rfl) rfl (by kernel_rfl) (fun _ _ _ h => h) (by kernel_rfl) (fun w' hS => (by obtain ⟨s13, t0, t1, t2, t3, t4, t5, t6, t7, t8, t9, t10, t11, t12, t13⟩ := hS; go_simp; try with_reducible rfl)) hS0 ?_
        simp only [Act.put]
        refine wpAnyT_one (i := 4) (by kernel_rfl) rfl (fun K hK => ?_)
        go_simp
        refine (hEL _ (hN0.to qd)).mono ?_
        rintro e w5 ⟨rfl, hb1⟩
        have q5 := (after (w := w) hb1 qd).1
        have hg5 : gD ≤ w5.heap.size := Nat.le_trans hgd hb1.size
        replace hX := hid_mk (hX.out.keep hb1)
        replace hU := hid_mk (hU.out.keep hb1)
        replace hY := hid_mk (hY.out.keep hb1)
        replace hown := hid_mk (own_keep hown.out hb1)
        replace hvI := hid_mk (hvI.out.to hb1)
        have hw64 : IntKind.i64.wrap (la + 1) = la + 1 := IntWalk.i64_in _ (by omega)
        clear hb1 qd hgd
        refine hK.out _ _ (fun _ => ⟨hX.out.cell 13, hU.out.cell 0, hU.out.cell 1, hU.out.cell 2, hU.out.cell 3, hU.out.cell 4, hU.out.cell 5, hU.out.cell 6, hU.out.cell 7, hU.out.cell 8, hU.out.cell 9, hU.out.cell 10, hU.out.cell 11, hU.out.cell 12, hU.out.cell 13⟩) ?_
        clear hK K
        try simp only [Act.put]
        refine wpAnyT_take (i := 5) rfl (by kernel_rfl) (by kernel_rfl) (by kernel_rfl) rfl (by kernel_rfl) (fun _ _ _ h => h) (by kernel_rfl) (fun w' hS => (by obtain ⟨s13, t0, t1, t2, t3, t4, t5, t6, t7, t8, t9, t10, t11, t12, t13⟩ := hS; go_simp; try with_reducible rfl)) ⟨hX.out.cell 13, hU.out.cell 0, hU.out.cell 1, hU.out.cell 2, hU.out.cell 3, hU.out.cell 4, hU.out.cell 5, hU.out.cell 6, hU.out.cell 7, hU.out.cell 8, hU.out.cell 9, hU.out.cell 10, hU.out.cell 11, hU.out.cell 12, hU.out.cell 13⟩ ?_
        simp only [Act.put]
        refine wpAnyT_take (i := 6) rfl (by kernel_rfl) (by kernel_rfl) (by kernel_rfl) rfl (by kernel_rfl) (fun _ _ _ h => h) (by kernel_rfl) (fun w' hS => (by obtain ⟨s13, t0, t1, t2, t3, t4, t5, t6, t7, t8, t9, t10, t11, t12, t13⟩ := hS; go_simp; try with_reducible rfl)) ⟨hX.out.cell 13, hU.out.cell 0, hU.out.cell 1, hU.out.cell 2, hU.out.cell 3, hU.out.cell 4, hU.out.cell 5, hU.out.cell 6, hU.out.cell 7, hU.out.cell 8, hU.out.cell 9, hU.out.cell 10, hU.out.cell 11, hU.out.cell 12, hU.out.cell 13⟩ ?_
        simp only [Act.put]
        refine wpAnyT_one (i := 7) (by kernel_rfl) rfl (fun K hK => ?_)
        go_simp
        obtain ⟨gN, hgN⟩ : ∃ g, w5.heap.size = g := ⟨_, rfl⟩
        have hL : Hid (Prs (w5.alloc (.cells #[.int .i64 x, .int .i64 (la + 1), .int .i64 0] 53)) 0 (some ⟨gN, 0, none⟩) 1 [⟨x, la + 1, 0⟩]) := by rw [← hgN]; exact reads_new w5 #[.int .i64 x, .int .i64 (la + 1), .int .i64 0] 53 1 3 0 rfl
        replace hX := hid_mk (hX.out.alloc (.cells #[.int .i64 x, .int .i64 (la + 1), .int .i64 0] 53))
        replace hU := hid_mk (hU.out.alloc (.cells #[.int .i64 x, .int .i64 (la + 1), .int .i64 0] 53))
        replace hY := hid_mk (hY.out.alloc (.cells #[.int .i64 x, .int .i64 (la + 1), .int .i64 0] 53))
        replace hown := hid_mk (hown.out.alloc (.cells #[.int .i64 x, .int .i64 (la + 1), .int .i64 0] 53))
        replace hvI : Hid (Ints (w5.alloc (.cells #[.int .i64 x, .int .i64 (la + 1), .int .i64 0] 53)) B (some ⟨bv, ov, none⟩) vn vo) := hvI.out.to (by go_grown)
        have q6 := q5.alloc q5.size (.cells #[.int .i64 x, .int .i64 (la + 1), .int .i64 0] 53)
        have hg6 : gD ≤ (w5.alloc (.cells #[.int .i64 x, .int .i64 (la + 1), .int .i64 0] 53)).heap.size := by simp only [World.size_alloc]; omega
        obtain ⟨w6, hw6⟩ : ∃ y, w5.alloc (.cells #[.int .i64 x, .int .i64 (la + 1), .int .i64 0] 53) = y := ⟨_, rfl⟩
        rw [hw6] at hL hX hU hY hown hvI q6 hg6 ⊢
        rw [hgN]
        clear hw6 hgN q5 hg5
        refine hK.out _ _ (fun _ => ⟨hX.out.cell 13, hU.out.cell 0, hU.out.cell 1, hU.out.cell 2, hU.out.cell 3, hU.out.cell 4, hU.out.cell 5, hU.out.cell 6, hU.out.cell 7, hU.out.cell 8, hU.out.cell 9, hU.out.cell 10, hU.out.cell 11, hU.out.cell 12, hU.out.cell 13⟩) ?_
        clear hK K
        try simp only [Act.put]
        refine wpAnyT_one (i := 8) (by kernel_rfl) rfl (fun K hK => ?_)
        refine step_append_any _ rfl (.tmp 34) (.tmp 40) 28 rfl gD 53 i0 _ 3 24 Tryz.underlying28 hi0 hz0 hz1 hz2 rfl (by omega) _ qn _ rfl hown.out 0 (some ⟨gN, 0, none⟩) 1 1 _ rfl hL.out (pr_one _) (by simp only [maxLen]; omega) (by omega) hg6 ?_
        intro v5 w7 hown5 hgr _
        have q7 : Below w.heap.size w w7 := grown_below q6 hgr (fun k hk => by have := (World.ownsRow.lt hown.out k hk).1; omega)
        have hg7 : gD ≤ w7.heap.size := Nat.le_trans hg6 hgr.size
        replace hX := hid_mk (Blk.grown hX.out hgr (own_ne hown.out hX.out))
        replace hU := hid_mk (Blk.grown hU.out hgr (own_ne hown.out hU.out))
        replace hY := hid_mk (Blk.grown hY.out hgr (own_ne hown.out hY.out))
        replace hvI := hid_mk (reads_grownB hvI.out hgr (fun k hk => by
          have h1 := (World.ownsRow.lt hown.out k hk).1
          obtain ⟨cs, fr, h⟩ := own_typedS hown.out k hk
          exact ⟨by omega, _, cs, fr, h, by decide⟩))
        obtain ⟨Qb, cb, rfl, _, _⟩ := own_slice hown5
        replace hown := hid_mk hown5
        clear hL hgr q6 hg6 hown5
        refine hK.out _ _ (fun _ => ⟨hX.out.cell 13, hU.out.cell 0, hU.out.cell 1, hU.out.cell 2, hU.out.cell 3, hU.out.cell 4, hU.out.cell 5, hU.out.cell 6, hU.out.cell 7, hU.out.cell 8, hU.out.cell 9, hU.out.cell 10, hU.out.cell 11, hU.out.cell 12, hU.out.cell 13⟩) ?_
        clear hK K
        try simp only [Act.put]
        refine wpAnyT_one (i := 9) (by kernel_rfl) rfl (fun K hK => ?_)
        go_simp
        refine hK.out _ _ (fun _ => ⟨hX.out.cell 13, hU.out.cell 0, hU.out.cell 1, hU.out.cell 2, hU.out.cell 3, hU.out.cell 4, hU.out.cell 5, hU.out.cell 6, hU.out.cell 7, hU.out.cell 8, hU.out.cell 9, hU.out.cell 10, hU.out.cell 11, hU.out.cell 12, hU.out.cell 13⟩) ?_
        clear hK K
        try simp only [Act.put]
        have x13 := hX.out.cell 13
        change _ = some (Value.slice Qa qn qc) at x13
        have xf13 := hX.out.frozen 13
        have xl13 := hX.out.lt
        refine wpAnyT_one (i := 10) (by kernel_rfl) rfl (fun K hK => ?_)
        go_simp
        refine hK.out _ _ (fun h => absurd h (by decide)) ?_
        clear hK K
        try simp only [Act.put]
        refine wpAnyT_done (by kernel_rfl) ?_ _
        clear x13 xf13 xl13
        have hXn : Blk (w7.setCell ⟨w.heap.size + 1 + 1, 13, none⟩ (.slice Qb (qn + 1) cb)) (w.heap.size + 1 + 1) 30 #[.int .i64 id, .int .i64 t, .int .i64 v, .int .i64 base, .int .i64 bt, .slice RA n Rc, .string s, .slice VA m Vc, .int .i64 2, .int .i64 id, .int .i64 2, .int .i64 commit, .slice none 0 0, .slice Qb (qn + 1) cb] := hX.out.set_ 13 _
        have hUn := hU.out.far (p := ⟨w.heap.size + 1 + 1, 13, none⟩) (by dsimp only; omega) (.slice Qb (qn + 1) cb)
        have hYn := hY.out.far (p := ⟨w.heap.size + 1 + 1, 13, none⟩) (by dsimp only; omega) (.slice Qb (qn + 1) cb)
        have hon := own_far hown.out hX.out (by decide) 13 (.slice Qb (qn + 1) cb)
        have hin : Ints (w7.setCell ⟨w.heap.size + 1 + 1, 13, none⟩ (.slice Qb (qn + 1) cb)) B (some ⟨bv, ov, none⟩) vn vo := Reads.far hvI.out hX.out (by omega) (by decide) 13 _
        have q8 := q7.setCell (p := ⟨w.heap.size + 1 + 1, 13, none⟩) (by dsimp only; omega) (.slice Qb (qn + 1) cb)
        have hg8 : gD ≤ (w7.setCell ⟨w.heap.size + 1 + 1, 13, none⟩ (.slice Qb (qn + 1) cb)).heap.size := by simpa [World.setCell] using hg7
        have hon2 : (w7.setCell ⟨w.heap.size + 1 + 1, 13, none⟩ (.slice Qb (qn + 1) cb)).ownsRow gD 53 3 (.slice Qb (qn + 1) cb) (qn + 1) (prsL (((vo.take (k + 1)).filter (fun v => !(v == id))).map (fun v => ⟨v, la + 1, 0⟩))) := by
          rw [hft.out, List.map_append]
          unfold prsL at hon ⊢
          rw [List.flatMap_append]
          exact hon
        obtain ⟨w8, hw8⟩ : ∃ x, (w7.setCell ⟨w.heap.size + 1 + 1, 13, none⟩ (.slice Qb (qn + 1) cb)) = x := ⟨_, rfl⟩
        rw [hw8] at hXn hUn hYn hin hon2 q8 hg8 ⊢
        clear hw8 hX hU hY hown hvI q7 hg7 hon hft
        go_wp2
        go_roundw
        case rel => exact ⟨k + 1, qn + 1, cb, Qb, by go_num, by omega, q8, hg8, by omega, hid_mk hXn, hid_mk hon2, hid_mk hUn, hid_mk hYn, hid_mk hin⟩
        case measure => simp [intOf]; omega
    · obtain rfl : vn = k := by omega
      rw [List.take_of_length_le (by rw [hvl.out]; exact Nat.le_refl _), hPS.out] at hown
      clear hvI
      have hQ := Reads.of_own (B := B) hown.out
      have hqc : qn ≤ qc := own_cap hown.out
      have hok7 : Hid (NdOk wr B NB0 ⟨⟨RA, n, Rc⟩, ⟨VA, m, Vc⟩, ⟨none, 0, 0⟩, ⟨Qa, qn, qc⟩⟩) := by
        rw [hNBe.out]
        exact ⟨hN0.recs.to hb, hN0.rc, hN0.rb, hN0.vs.to hb, hN0.vc, hN0.vb, hN0.sb, Reads.none_, Nat.le_refl _, by dsimp only; omega, hQ, hqc, by dsimp only; omega⟩
      clear hQ hown
      have hEW7 := fun (w : World) (h0 : B ≤ w.heap.size) (k : NdOk w B NB0 ⟨⟨RA, n, Rc⟩, ⟨VA, m, Vc⟩, ⟨none, 0, 0⟩, ⟨Qa, qn, qc⟩⟩) (ht : Tab w) => hEW ⟨⟨RA, n, Rc⟩, ⟨VA, m, Vc⟩, ⟨none, 0, 0⟩, ⟨Qa, qn, qc⟩⟩ w h0 k hj.out ht
      rw [hNBe.out] at hEW7
      unfold nodeV recVal at hEW7
      dsimp only at hEW7
      rw [← hNBe.out] at hEW7
      clear hEW
      have u1 := hU.out.cell 1
      change _ = some (Value.int .i64 t) at u1
      have ul := hU.out.lt
      obtain ⟨xl, x0, x1, x2, x3, x4, x5, x6, x7, x8, x9, x10, x11, x12, x13, xf0, xf1, xf2, xf3, xf4, xf5, xf6, xf7, xf8, xf9, xf10, xf11, xf12, xf13⟩ := blk14f hX.out
      go_wp2_with fail
      clear xl x0 x1 x2 x3 x4 x5 x6 x7 x8 x9 x10 x11 x12 x13 xf0 xf1 xf2 xf3 xf4 xf5 xf6 xf7 xf8 xf9 xf10 xf11 xf12 xf13
      clear u1 ul hU
      refine (hEW7 _ (by omega) hok7.out (ht.to hb)).mono ?_
      rintro e w8 ⟨a8, rfl, hok8, hb1⟩
      unfold nodeV
      have q8 := (after (w := w) hb1 hb).1
      replace hX := hid_mk (hX.out.keep hb1)
      replace hY := hid_mk (hY.out.keep hb1)
      have hok7' := hid_mk (hok7.out.to hb1)
      replace hok8 := hid_mk hok8
      clear hb1 hEW7 hok7
      have z8 := q8.size
      replace hX := hid_mk (hX.out.alloc (.cells #[.int .i64 NW.id, .int .i64 NW.h.t, .int .i64 NW.h.v, .int .i64 NW.h.l.base, .int .i64 NW.h.l.bt, .slice a8.R.A a8.R.n a8.R.c, .string NW.h.s, .slice a8.V.A a8.V.n a8.V.c, .int .i64 NW.role, .int .i64 NW.lead, .int .i64 NW.timer, .int .i64 NW.commit, .slice a8.G.A a8.G.n a8.G.c, .slice a8.P.A a8.P.n a8.P.c] 30))
      replace hY := hid_mk (hY.out.alloc (.cells #[.int .i64 NW.id, .int .i64 NW.h.t, .int .i64 NW.h.v, .int .i64 NW.h.l.base, .int .i64 NW.h.l.bt, .slice a8.R.A a8.R.n a8.R.c, .string NW.h.s, .slice a8.V.A a8.V.n a8.V.c, .int .i64 NW.role, .int .i64 NW.lead, .int .i64 NW.timer, .int .i64 NW.commit, .slice a8.G.A a8.G.n a8.G.c, .slice a8.P.A a8.P.n a8.P.c] 30))
      obtain ⟨gM, hgM⟩ : ∃ g, w8.heap.size = g := ⟨_, rfl⟩
      have hM : Hid (Blk (w8.alloc (.cells #[.int .i64 NW.id, .int .i64 NW.h.t, .int .i64 NW.h.v, .int .i64 NW.h.l.base, .int .i64 NW.h.l.bt, .slice a8.R.A a8.R.n a8.R.c, .string NW.h.s, .slice a8.V.A a8.V.n a8.V.c, .int .i64 NW.role, .int .i64 NW.lead, .int .i64 NW.timer, .int .i64 NW.commit, .slice a8.G.A a8.G.n a8.G.c, .slice a8.P.A a8.P.n a8.P.c] 30)) gM 30 #[.int .i64 NW.id, .int .i64 NW.h.t, .int .i64 NW.h.v, .int .i64 NW.h.l.base, .int .i64 NW.h.l.bt, .slice a8.R.A a8.R.n a8.R.c, .string NW.h.s, .slice a8.V.A a8.V.n a8.V.c, .int .i64 NW.role, .int .i64 NW.lead, .int .i64 NW.timer, .int .i64 NW.commit, .slice a8.G.A a8.G.n a8.G.c, .slice a8.P.A a8.P.n a8.P.c]) := by rw [← hgM]; exact Blk.new _ _ _
      have hok7 : Hid (NdOk (w8.alloc (.cells #[.int .i64 NW.id, .int .i64 NW.h.t, .int .i64 NW.h.v, .int .i64 NW.h.l.base, .int .i64 NW.h.l.bt, .slice a8.R.A a8.R.n a8.R.c, .string NW.h.s, .slice a8.V.A a8.V.n a8.V.c, .int .i64 NW.role, .int .i64 NW.lead, .int .i64 NW.timer, .int .i64 NW.commit, .slice a8.G.A a8.G.n a8.G.c, .slice a8.P.A a8.P.n a8.P.c] 30)) B NB0 ⟨⟨RA, n, Rc⟩, ⟨VA, m, Vc⟩, ⟨none, 0, 0⟩, ⟨Qa, qn, qc⟩⟩) := hok7'.out.to (by go_grown)
      replace hok8 : Hid (NdOk (w8.alloc (.cells #[.int .i64 NW.id, .int .i64 NW.h.t, .int .i64 NW.h.v, .int .i64 NW.h.l.base, .int .i64 NW.h.l.bt, .slice a8.R.A a8.R.n a8.R.c, .string NW.h.s, .slice a8.V.A a8.V.n a8.V.c, .int .i64 NW.role, .int .i64 NW.lead, .int .i64 NW.timer, .int .i64 NW.commit, .slice a8.G.A a8.G.n a8.G.c, .slice a8.P.A a8.P.n a8.P.c] 30)) B NW a8) := hok8.out.to (by go_grown)
      have q9 : Below w.heap.size w (w8.alloc (.cells #[.int .i64 NW.id, .int .i64 NW.h.t, .int .i64 NW.h.v, .int .i64 NW.h.l.base, .int .i64 NW.h.l.bt, .slice a8.R.A a8.R.n a8.R.c, .string NW.h.s, .slice a8.V.A a8.V.n a8.V.c, .int .i64 NW.role, .int .i64 NW.lead, .int .i64 NW.timer, .int .i64 NW.commit, .slice a8.G.A a8.G.n a8.G.c, .slice a8.P.A a8.P.n a8.P.c] 30)) := by go_grown
      obtain ⟨w9, hw9⟩ : ∃ x, (w8.alloc (.cells #[.int .i64 NW.id, .int .i64 NW.h.t, .int .i64 NW.h.v, .int .i64 NW.h.l.base, .int .i64 NW.h.l.bt, .slice a8.R.A a8.R.n a8.R.c, .string NW.h.s, .slice a8.V.A a8.V.n a8.V.c, .int .i64 NW.role, .int .i64 NW.lead, .int .i64 NW.timer, .int .i64 NW.commit, .slice a8.G.A a8.G.n a8.G.c, .slice a8.P.A a8.P.n a8.P.c] 30)) = x := ⟨_, rfl⟩
      rw [hw9] at hX hY hM hok7 hok8 q9
      replace hw9 := hid_mk hw9
      replace hgM := hid_mk hgM
      clear hok7' q8
      go_upto_region 11 with fail
      rw [hw9.out, hgM.out]
      clear hw9 hgM z8
      have z9 := q9.size
      cases zh
      case false =>
        exact absurd hB.out (by decide)
      case true =>
        have hw := hid_mk (hWt.out (by first | rfl | trivial))
        obtain ⟨xl, x0, x1, x2, x3, x4, x5, x6, x7, x8, x9, x10, x11, x12, x13, xf0, xf1, xf2, xf3, xf4, xf5, xf6, xf7, xf8, xf9, xf10, xf11, xf12, xf13⟩ := blk14f hX.out
        obtain ⟨ml, m0, m1, m2, m3, m4, m5, m6, m7, m8, m9, m10, m11, m12, m13, mf0, mf1, mf2, mf3, mf4, mf5, mf6, mf7, mf8, mf9, mf10, mf11, mf12, mf13⟩ := blk14f hM.out
        go_upto_region 13 with fail
        clear xl x0 x1 x2 x3 x4 x5 x6 x7 x8 x9 x10 x11 x12 x13 xf0 xf1 xf2 xf3 xf4 xf5 xf6 xf7 xf8 xf9 xf10 xf11 xf12 xf13
        clear ml m0 m1 m2 m3 m4 m5 m6 m7 m8 m9 m10 m11 m12 m13 mf0 mf1 mf2 mf3 mf4 mf5 mf6 mf7 mf8 mf9 mf10 mf11 mf12 mf13
        have hXn := set14_blk hX.out (.int .i64 NW.id) (.int .i64 NW.h.t) (.int .i64 NW.h.v) (.int .i64 NW.h.l.base) (.int .i64 NW.h.l.bt) (.slice a8.R.A a8.R.n a8.R.c) (.string NW.h.s) (.slice a8.V.A a8.V.n a8.V.c) (.int .i64 NW.role) (.int .i64 NW.lead) (.int .i64 NW.timer) (.int .i64 NW.commit) (.slice a8.G.A a8.G.n a8.G.c) (.slice a8.P.A a8.P.n a8.P.c)
        have hYn := set14_farS hY.out (by omega : w.heap.size + 1 ≠ w.heap.size + 1 + 1) (.int .i64 NW.id) (.int .i64 NW.h.t) (.int .i64 NW.h.v) (.int .i64 NW.h.l.base) (.int .i64 NW.h.l.bt) (.slice a8.R.A a8.R.n a8.R.c) (.string NW.h.s) (.slice a8.V.A a8.V.n a8.V.c) (.int .i64 NW.role) (.int .i64 NW.lead) (.int .i64 NW.timer) (.int .i64 NW.commit) (.slice a8.G.A a8.G.n a8.G.c) (.slice a8.P.A a8.P.n a8.P.c)
        have qn9 := set14_below (.int .i64 NW.id) (.int .i64 NW.h.t) (.int .i64 NW.h.v) (.int .i64 NW.h.l.base) (.int .i64 NW.h.l.bt) (.slice a8.R.A a8.R.n a8.R.c) (.string NW.h.s) (.slice a8.V.A a8.V.n a8.V.c) (.int .i64 NW.role) (.int .i64 NW.lead) (.int .i64 NW.timer) (.int .i64 NW.commit) (.slice a8.G.A a8.G.n a8.G.c) (.slice a8.P.A a8.P.n a8.P.c) q9 (by omega : w.heap.size ≤ w.heap.size + 1 + 1)
        have hokn := nd_st14 hok8.out hX.out (by omega : B ≤ w.heap.size + 1 + 1) (.int .i64 NW.id) (.int .i64 NW.h.t) (.int .i64 NW.h.v) (.int .i64 NW.h.l.base) (.int .i64 NW.h.l.bt) (.slice a8.R.A a8.R.n a8.R.c) (.string NW.h.s) (.slice a8.V.A a8.V.n a8.V.c) (.int .i64 NW.role) (.int .i64 NW.lead) (.int .i64 NW.timer) (.int .i64 NW.commit) (.slice a8.G.A a8.G.n a8.G.c) (.slice a8.P.A a8.P.n a8.P.c)
        obtain ⟨wn, hwn⟩ : ∃ x, set14 w9 (w.heap.size + 1 + 1) (.int .i64 NW.id) (.int .i64 NW.h.t) (.int .i64 NW.h.v) (.int .i64 NW.h.l.base) (.int .i64 NW.h.l.bt) (.slice a8.R.A a8.R.n a8.R.c) (.string NW.h.s) (.slice a8.V.A a8.V.n a8.V.c) (.int .i64 NW.role) (.int .i64 NW.lead) (.int .i64 NW.timer) (.int .i64 NW.commit) (.slice a8.G.A a8.G.n a8.G.c) (.slice a8.P.A a8.P.n a8.P.c) = x := ⟨_, rfl⟩
        rw [hwn] at hXn hYn qn9 hokn
        unfold set14 at hwn
        rw [hwn]
        clear hwn q9 hX hY
        have hY := hid_mk hYn
        have q9 := qn9
        obtain ⟨a9, hX9, hok9⟩ : ∃ a9 : NdA, Hid (Blk wn (w.heap.size + 1 + 1) 30 #[.int .i64 W2.id, .int .i64 W2.h.t, .int .i64 W2.h.v, .int .i64 W2.h.l.base, .int .i64 W2.h.l.bt, .slice a9.R.A a9.R.n a9.R.c, .string W2.h.s, .slice a9.V.A a9.V.n a9.V.c, .int .i64 W2.role, .int .i64 W2.lead, .int .i64 W2.timer, .int .i64 W2.commit, .slice a9.G.A a9.G.n a9.G.c, .slice a9.P.A a9.P.n a9.P.c]) ∧ Hid (NdOk wn B W2 a9) := ⟨a8, by rw [hw.out]; exact hXn, by rw [hw.out]; exact hokn⟩
        clear hXn hYn qn9 hokn
        obtain ⟨wc, hwc⟩ : ∃ x, x = wn := ⟨wn, rfl⟩
        subst hwc
        have qc9 := q9
        clear hok7 hok8 hM q9 z9
        try clear hX
        have hX := hX9
        clear hX9
        obtain ⟨NS, hNS⟩ : ∃ x, sureN W2 = x := ⟨_, rfl⟩
        have hES := fun (w : World) (k : NdOk w B W2 a9) => RSureN_any W2 a9 w k hy3.out
        have hrs := hid_mk (sure_right hy3.out)
        have hokS : Hid (NdOk wc B NS a9) := by
          rw [← hNS]
          have e := sure_same W2
          have h := hok9.out
          exact ⟨by rw [e.2.1]; exact h.recs, h.rc, h.rb, by rw [e.2.1]; exact h.vs, h.vc, h.vb, by rw [e.2.1]; exact h.sb, by rw [e.2.2.2.2.2.1]; exact h.got, h.gc, h.gb, by rw [e.2.2.2.2.2.2.1]; exact h.ps, h.pc, h.pb⟩
        rw [hNS] at hES hrs hy1 hy2
        replace hNS := hid_mk hNS
        unfold nodeV at hES
        have hSA := fun (w : World) (h0 : B ≤ w.heap.size) (k : NdOk w B NS a9) => RAll_any NS a9 w h0 k hrs.out
        unfold nodeV at hSA
        obtain ⟨LS, hLS⟩ : ∃ x, allM NS = x := ⟨_, rfl⟩
        rw [hLS] at hSA hy2
        replace hLS := hid_mk hLS
        obtain ⟨xl, x0, x1, x2, x3, x4, x5, x6, x7, x8, x9, x10, x11, x12, x13, xf0, xf1, xf2, xf3, xf4, xf5, xf6, xf7, xf8, xf9, xf10, xf11, xf12, xf13⟩ := blk14f hX.out
        go_wp2_with fail
        clear xl x0 x1 x2 x3 x4 x5 x6 x7 x8 x9 x10 x11 x12 x13 xf0 xf1 xf2 xf3 xf4 xf5 xf6 xf7 xf8 xf9 xf10 xf11 xf12 xf13
        refine (hES _ hok9.out).mono ?_
        rintro e w10 ⟨rfl, hb1⟩
        have q10 := (after (w := w) hb1 qc9).1
        replace hX := hid_mk (hX.out.keep hb1)
        replace hY := hid_mk (hY.out.keep hb1)
        replace hokS := hid_mk (hokS.out.to hb1)
        clear hb1 qc9 hES hok9
        obtain ⟨xl, x0, x1, x2, x3, x4, x5, x6, x7, x8, x9, x10, x11, x12, x13, xf0, xf1, xf2, xf3, xf4, xf5, xf6, xf7, xf8, xf9, xf10, xf11, xf12, xf13⟩ := blk14f hX.out
        go_upto_region 14 with fail
        clear xl x0 x1 x2 x3 x4 x5 x6 x7 x8 x9 x10 x11 x12 x13 xf0 xf1 xf2 xf3 xf4 xf5 xf6 xf7 xf8 xf9 xf10 xf11 xf12 xf13
        have hXn := set14_blk hX.out (.int .i64 NS.id) (.int .i64 NS.h.t) (.int .i64 NS.h.v) (.int .i64 NS.h.l.base) (.int .i64 NS.h.l.bt) (.slice a9.R.A a9.R.n a9.R.c) (.string NS.h.s) (.slice a9.V.A a9.V.n a9.V.c) (.int .i64 NS.role) (.int .i64 NS.lead) (.int .i64 NS.timer) (.int .i64 NS.commit) (.slice a9.G.A a9.G.n a9.G.c) (.slice a9.P.A a9.P.n a9.P.c)
        have hYn := set14_farS hY.out (by omega : w.heap.size + 1 ≠ w.heap.size + 1 + 1) (.int .i64 NS.id) (.int .i64 NS.h.t) (.int .i64 NS.h.v) (.int .i64 NS.h.l.base) (.int .i64 NS.h.l.bt) (.slice a9.R.A a9.R.n a9.R.c) (.string NS.h.s) (.slice a9.V.A a9.V.n a9.V.c) (.int .i64 NS.role) (.int .i64 NS.lead) (.int .i64 NS.timer) (.int .i64 NS.commit) (.slice a9.G.A a9.G.n a9.G.c) (.slice a9.P.A a9.P.n a9.P.c)
        have q11 := set14_below (.int .i64 NS.id) (.int .i64 NS.h.t) (.int .i64 NS.h.v) (.int .i64 NS.h.l.base) (.int .i64 NS.h.l.bt) (.slice a9.R.A a9.R.n a9.R.c) (.string NS.h.s) (.slice a9.V.A a9.V.n a9.V.c) (.int .i64 NS.role) (.int .i64 NS.lead) (.int .i64 NS.timer) (.int .i64 NS.commit) (.slice a9.G.A a9.G.n a9.G.c) (.slice a9.P.A a9.P.n a9.P.c) q10 (by omega : w.heap.size ≤ w.heap.size + 1 + 1)
        have hokn := nd_st14 hokS.out hX.out (by omega : B ≤ w.heap.size + 1 + 1) (.int .i64 NS.id) (.int .i64 NS.h.t) (.int .i64 NS.h.v) (.int .i64 NS.h.l.base) (.int .i64 NS.h.l.bt) (.slice a9.R.A a9.R.n a9.R.c) (.string NS.h.s) (.slice a9.V.A a9.V.n a9.V.c) (.int .i64 NS.role) (.int .i64 NS.lead) (.int .i64 NS.timer) (.int .i64 NS.commit) (.slice a9.G.A a9.G.n a9.G.c) (.slice a9.P.A a9.P.n a9.P.c)
        obtain ⟨w11, hw11⟩ : ∃ x, set14 w10 (w.heap.size + 1 + 1) (.int .i64 NS.id) (.int .i64 NS.h.t) (.int .i64 NS.h.v) (.int .i64 NS.h.l.base) (.int .i64 NS.h.l.bt) (.slice a9.R.A a9.R.n a9.R.c) (.string NS.h.s) (.slice a9.V.A a9.V.n a9.V.c) (.int .i64 NS.role) (.int .i64 NS.lead) (.int .i64 NS.timer) (.int .i64 NS.commit) (.slice a9.G.A a9.G.n a9.G.c) (.slice a9.P.A a9.P.n a9.P.c) = x := ⟨_, rfl⟩
        rw [hw11] at hXn hYn q11 hokn
        unfold set14 at hw11
        rw [hw11]
        clear hw11 hX hY hokS q10
        have hX := hid_mk hXn
        have hY := hid_mk hYn
        have hokS := hid_mk hokn
        clear hXn hYn hokn
        refine wp_region_T' (fun w' => w'.cell? ⟨w.heap.size + 1 + 1, 0, none⟩ = some (.int .i64 NS.id) ∧ w'.cell? ⟨w.heap.size + 1 + 1, 1, none⟩ = some (.int .i64 NS.h.t) ∧ w'.cell? ⟨w.heap.size + 1 + 1, 2, none⟩ = some (.int .i64 NS.h.v) ∧ w'.cell? ⟨w.heap.size + 1 + 1, 3, none⟩ = some (.int .i64 NS.h.l.base) ∧ w'.cell? ⟨w.heap.size + 1 + 1, 4, none⟩ = some (.int .i64 NS.h.l.bt) ∧ w'.cell? ⟨w.heap.size + 1 + 1, 5, none⟩ = some (.slice a9.R.A a9.R.n a9.R.c) ∧ w'.cell? ⟨w.heap.size + 1 + 1, 6, none⟩ = some (.string NS.h.s) ∧ w'.cell? ⟨w.heap.size + 1 + 1, 7, none⟩ = some (.slice a9.V.A a9.V.n a9.V.c) ∧ w'.cell? ⟨w.heap.size + 1 + 1, 8, none⟩ = some (.int .i64 NS.role) ∧ w'.cell? ⟨w.heap.size + 1 + 1, 9, none⟩ = some (.int .i64 NS.lead) ∧ w'.cell? ⟨w.heap.size + 1 + 1, 10, none⟩ = some (.int .i64 NS.timer) ∧ w'.cell? ⟨w.heap.size + 1 + 1, 11, none⟩ = some (.int .i64 NS.commit) ∧ w'.cell? ⟨w.heap.size + 1 + 1, 12, none⟩ = some (.slice a9.G.A a9.G.n a9.G.c) ∧ w'.cell? ⟨w.heap.size + 1 + 1, 13, none⟩ = some (.slice a9.P.A a9.P.n a9.P.c)) (fun j => decide (j < 5)) 5 (by kernel_rfl) (by kernel_rfl) (by exact ⟨hX.out.cell 0, hX.out.cell 1, hX.out.cell 2, hX.out.cell 3, hX.out.cell 4, hX.out.cell 5, hX.out.cell 6, hX.out.cell 7, hX.out.cell 8, hX.out.cell 9, hX.out.cell 10, hX.out.cell 11, hX.out.cell 12, hX.out.cell 13⟩) (fun hS0 => ?_)
        replace hX := hid_mk hX.out.drew
        replace hY := hid_mk hY.out.drew
        replace hokS := hid_mk (hokS.out.to (show Below w11.heap.size w11 w11.drew by go_grown))
        have qd : Below w.heap.size w w11.drew := by go_grown
        obtain ⟨wd, hwd⟩ : ∃ x, w11.drew = x := ⟨_, rfl⟩
        rw [hwd] at hS0 hX hY hokS qd ⊢
        clear hwd q11
        have zd := qd.size
        refine wpAnyT_take (i := 0) rfl (by kernel_rfl) (by kernel_rfl) (by kernel_rfl) rfl (by kernel_rfl) (fun _ _ _ h => h) (by kernel_rfl) (fun w' hS => (by obtain ⟨s0, s1, s2, s3, s4, s5, s6, s7, s8, s9, s10, s11, s12, s13⟩ := hS; go_simp; try with_reducible rfl)) hS0 ?_
        simp only [Act.put]
        refine wpAnyT_take (i := 1) rfl (by kernel_rfl) (by kernel_rfl) (by kernel_rfl) rfl (by kernel_rfl) (fun _ _ _ h => h) (by kernel_rfl) (fun w' hS => (by obtain ⟨s0, s1, s2, s3, s4, s5, s6, s7, s8, s9, s10, s11, s12, s13⟩ := hS; go_simp; try with_reducible rfl)) hS0 ?_
        simp only [Act.put]
        refine wpAnyT_one (i := 2) (by kernel_rfl) rfl (fun K hK => ?_)
        go_simp
        refine (hSA _ (by omega) hokS.out).mono ?_
        rintro e w12 ⟨LA, ln, lc, pm, rfl, hMg, hpm, hlc, hb1⟩
        have q12 := (after (w := w) hb1 qd).1
        replace hX := hid_mk (hX.out.keep hb1)
        replace hY := hid_mk (hY.out.keep hb1)
        replace hokS := hid_mk (hokS.out.to hb1)
        replace hMg := hid_mk hMg
        replace hpm := hid_mk hpm
        clear hb1 qd
        refine hK.out _ _ (fun _ => ⟨hX.out.cell 0, hX.out.cell 1, hX.out.cell 2, hX.out.cell 3, hX.out.cell 4, hX.out.cell 5, hX.out.cell 6, hX.out.cell 7, hX.out.cell 8, hX.out.cell 9, hX.out.cell 10, hX.out.cell 11, hX.out.cell 12, hX.out.cell 13⟩) ?_
        clear hK K
        try simp only [Act.put]
        obtain ⟨yl, y0, y1, y2, y3, y4, y5, y6, y7, y8, y9, y10, y11, y12, y13, yf0, yf1, yf2, yf3, yf4, yf5, yf6, yf7, yf8, yf9, yf10, yf11, yf12, yf13⟩ := blk14f hY.out
        refine wpAnyT_one (i := 3) (by kernel_rfl) rfl (fun K hK => ?_)
        go_simp
        clear yl y0 y1 y2 y3 y4 y5 y6 y7 y8 y9 y10 y11 y12 y13 yf0 yf1 yf2 yf3 yf4 yf5 yf6 yf7 yf8 yf9 yf10 yf11 yf12 yf13
        have hMz := mgs_st14 hMg.out hY.out (by omega) (.int .i64 NS.id) (.int .i64 NS.h.t) (.int .i64 NS.h.v) (.int .i64 NS.h.l.base) (.int .i64 NS.h.l.bt) (.slice a9.R.A a9.R.n a9.R.c) (.string NS.h.s) (.slice a9.V.A a9.V.n a9.V.c) (.int .i64 NS.role) (.int .i64 NS.lead) (.int .i64 NS.timer) (.int .i64 NS.commit) (.slice a9.G.A a9.G.n a9.G.c) (.slice a9.P.A a9.P.n a9.P.c)
        have hokz := nd_st14 hokS.out hY.out (by omega) (.int .i64 NS.id) (.int .i64 NS.h.t) (.int .i64 NS.h.v) (.int .i64 NS.h.l.base) (.int .i64 NS.h.l.bt) (.slice a9.R.A a9.R.n a9.R.c) (.string NS.h.s) (.slice a9.V.A a9.V.n a9.V.c) (.int .i64 NS.role) (.int .i64 NS.lead) (.int .i64 NS.timer) (.int .i64 NS.commit) (.slice a9.G.A a9.G.n a9.G.c) (.slice a9.P.A a9.P.n a9.P.c)
        replace hX := hid_mk (set14_farS hX.out (by omega : w.heap.size + 1 + 1 ≠ w.heap.size + 1) (.int .i64 NS.id) (.int .i64 NS.h.t) (.int .i64 NS.h.v) (.int .i64 NS.h.l.base) (.int .i64 NS.h.l.bt) (.slice a9.R.A a9.R.n a9.R.c) (.string NS.h.s) (.slice a9.V.A a9.V.n a9.V.c) (.int .i64 NS.role) (.int .i64 NS.lead) (.int .i64 NS.timer) (.int .i64 NS.commit) (.slice a9.G.A a9.G.n a9.G.c) (.slice a9.P.A a9.P.n a9.P.c))
        have qz := set14_below (.int .i64 NS.id) (.int .i64 NS.h.t) (.int .i64 NS.h.v) (.int .i64 NS.h.l.base) (.int .i64 NS.h.l.bt) (.slice a9.R.A a9.R.n a9.R.c) (.string NS.h.s) (.slice a9.V.A a9.V.n a9.V.c) (.int .i64 NS.role) (.int .i64 NS.lead) (.int .i64 NS.timer) (.int .i64 NS.commit) (.slice a9.G.A a9.G.n a9.G.c) (.slice a9.P.A a9.P.n a9.P.c) q12 (by omega : w.heap.size ≤ w.heap.size + 1)
        replace hY := hid_mk (set14_blk hY.out (.int .i64 NS.id) (.int .i64 NS.h.t) (.int .i64 NS.h.v) (.int .i64 NS.h.l.base) (.int .i64 NS.h.l.bt) (.slice a9.R.A a9.R.n a9.R.c) (.string NS.h.s) (.slice a9.V.A a9.V.n a9.V.c) (.int .i64 NS.role) (.int .i64 NS.lead) (.int .i64 NS.timer) (.int .i64 NS.commit) (.slice a9.G.A a9.G.n a9.G.c) (.slice a9.P.A a9.P.n a9.P.c))
        obtain ⟨wz, hwz⟩ : ∃ x, set14 w12 (w.heap.size + 1) (.int .i64 NS.id) (.int .i64 NS.h.t) (.int .i64 NS.h.v) (.int .i64 NS.h.l.base) (.int .i64 NS.h.l.bt) (.slice a9.R.A a9.R.n a9.R.c) (.string NS.h.s) (.slice a9.V.A a9.V.n a9.V.c) (.int .i64 NS.role) (.int .i64 NS.lead) (.int .i64 NS.timer) (.int .i64 NS.commit) (.slice a9.G.A a9.G.n a9.G.c) (.slice a9.P.A a9.P.n a9.P.c) = x := ⟨_, rfl⟩
        rw [hwz] at hX hY hMz hokz qz
        unfold set14 at hwz
        rw [hwz]
        clear hwz
        refine hK.out _ _ (fun _ => ⟨hX.out.cell 0, hX.out.cell 1, hX.out.cell 2, hX.out.cell 3, hX.out.cell 4, hX.out.cell 5, hX.out.cell 6, hX.out.cell 7, hX.out.cell 8, hX.out.cell 9, hX.out.cell 10, hX.out.cell 11, hX.out.cell 12, hX.out.cell 13⟩) ?_
        clear hK K
        try simp only [Act.put]
        refine wpAnyT_one (i := 4) (by kernel_rfl) rfl (fun K hK => ?_)
        go_simp
        refine hK.out _ _ (fun _ => ⟨hX.out.cell 0, hX.out.cell 1, hX.out.cell 2, hX.out.cell 3, hX.out.cell 4, hX.out.cell 5, hX.out.cell 6, hX.out.cell 7, hX.out.cell 8, hX.out.cell 9, hX.out.cell 10, hX.out.cell 11, hX.out.cell 12, hX.out.cell 13⟩) ?_
        clear hK K
        try simp only [Act.put]
        refine wpAnyT_done (by kernel_rfl) ?_ _
        obtain ⟨_, y0, y1, y2, y3, y4, y5, y6, y7, y8, y9, y10, y11, y12, y13⟩ := blk14c hY.out
        go_wp2
        refine ends_ret hQ (v := .tuple #[.agg #[.int .i64 NS.id, .int .i64 NS.h.t, .int .i64 NS.h.v, .int .i64 NS.h.l.base, .int .i64 NS.h.l.bt, .slice a9.R.A a9.R.n a9.R.c, .string NS.h.s, .slice a9.V.A a9.V.n a9.V.c, .int .i64 NS.role, .int .i64 NS.lead, .int .i64 NS.timer, .int .i64 NS.commit, .slice a9.G.A a9.G.n a9.G.c, .slice a9.P.A a9.P.n a9.P.c], .slice LA ln lc]) (by simp [results, Tryz.results27, go_sem, y0, y1, y2, y3, y4, y5, y6, y7, y8, y9, y10, y11, y12, y13]) rfl ?_
        exact ⟨a9, LA, ln, lc, pm, by rw [hy1.out]; rfl, by rw [hy1.out]; exact hokz, hMz, by rw [hy2.out]; exact hpm.out, hlc, qz⟩
theorem RLead_any (N : Nd) (a : NdA) (w : World) {B : Nat} (hBw : B ≤ w.heap.size) (hN : NdOk w B N a) (ht : Tab w) (hr0 : rightN N = true) :
    Calls Tryz.prog 27 #[nodeV N a] w (RetNMs w B (leadN N) (leadL N)) := by
  cases h1 : (N.role == 1) with
  | false => exact RLead1_any N a w hBw hN ht hr0 h1
  | true =>
    simp only [beq_iff_eq] at h1
    cases h2 : rightH (withH N.h ⟨N.h.t, 0, ⟨#[]⟩⟩) with
    | false => exact RLead2_any N a w hBw hN ht hr0 h1 h2
    | true => exact RLead3_any N a w hBw hN ht hr0 h1 h2
end Go.Proofs.YtncdjmpdbinanaaGreatDoor
